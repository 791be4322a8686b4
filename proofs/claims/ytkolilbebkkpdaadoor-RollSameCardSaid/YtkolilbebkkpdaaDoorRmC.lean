/-
  From which tick on a device may come in.
  What a Vouch, and a Replace, are asked.
  May.
-/
import Derived.Test.YtkolilbebkkpdaaDoorRmB
namespace Go.Proofs.YtkolilbebkkpdaaDoor
open Go.RowKit Go.Shelf Go.Maps Go.Sort

/-- A list of signed numbers of the call's own, in a block from base on. -/
structure OwnI (w : World) (base : Nat) (v : Value) (n : Nat) (xs : List Int) : Prop where
 len : xs.length = n
 row : w.ownsRow base 3 1 v n (xs.map (Value.int .i64))
 bd : ∀ x ∈ xs, -9223372036854775808 ≤ x ∧ x ≤ 9223372036854775807
theorem OwnI.nil (w : World) (base : Nat) : OwnI w base (.slice none 0 0) 0 [] := ⟨rfl, World.ownsRow_nil w base _ 1, fun _ h => by cases h⟩
theorem OwnI.below {w w' : World} {base : Nat} {v : Value} {n : Nat} {xs : List Int} (h : OwnI w base v n xs) (hb : Below w.heap.size w w') : OwnI w' base v n xs :=
 ⟨h.len, h.row.kept (row := none) ⟨hb.os, hb.tape, hb.output, hb.size, fun i hi _ => hb.block i hi⟩ (by cases hv : v.ownBlock <;> simp), h.bd⟩
theorem OwnI.far {w w' : World} {base : Nat} {v : Value} {n : Nat} {xs : List Int} (h : OwnI w base v n xs) {row : Option Nat} (hg : w.grownBy w' row) (hne : v.ownBlock = none ∨ v.ownBlock ≠ row) : OwnI w' base v n xs :=
 ⟨h.len, h.row.kept hg hne, h.bd⟩
theorem OwnI.farB {w w' : World} {base r : Nat} {v : Value} {n : Nat} {xs : List Int} (h : OwnI w base v n xs) (hg : w.grownBy w' (some r)) (hr : r < base) : OwnI w' base v n xs :=
 h.far hg (by
  by_cases e : v.ownBlock = none
  ·exact .inl e
  ·refine .inr fun e2 => ?_
   have := (h.row.lt _ e2).1
   omega)
theorem OwnI.lt {w : World} {base : Nat} {v : Value} {n : Nat} {xs : List Int} (h : OwnI w base v n xs) {g : Nat} (hg : v.ownBlock = some g) : base ≤ g ∧ g < w.heap.size := h.row.lt g hg
theorem OwnI.u {w : World} {base : Nat} {v : Value} {n : Nat} {xs : List Int} (h : OwnI w base v n xs) : ∃ p c, v = .slice p n c ∧ n ≤ c ∧ UI w p n xs ∧ FarP base p := by
 rcases h.row.2 with ⟨hv, hn⟩ | ⟨g, cap, cur, hv, hg, hgb, hnc, _, hcs, htake⟩
 ·refine ⟨none, 0, by rw [hv, hn], by omega, ?_, fun _ h => by cases h⟩
  have hx : xs = [] := List.eq_nil_of_length_eq_zero (by rw [h.len, hn])
  rw [hx, hn]; exact ⟨rfl, .nil, fun _ h => by cases h⟩
 ·refine ⟨some ⟨g, 0, none⟩, cap, hv, hnc, ?_, fun a ha => by injection ha with ha; rw [← ha]; exact hg⟩
  have := h.row
  rw [hv] at this
  exact ui_of_row this h.bd
/-- append(had, y). -/
theorem app_i {ops : Array Oper} {rest : List Oper} {o : Oper} {a : Act} {Q : Exit → Act → World → Prop} (hgd : o.guard = none) (s x : Operand)
  (ho : o.op = .call { callee := .builtin .append, args := #[s, x], argTypes := #[22, 22] }) {base : Nat} {v : Value} {n : Nat} {xs : List Int} {W : World} {y : Int}
  (hown : OwnI W base v n xs) (hs : a.eval s = v) (hx : a.eval x = .slice (some ⟨W.heap.size, 0, none⟩) 1 1) (hy : -9223372036854775808 ≤ y ∧ y ≤ 9223372036854775807) (hn : n ≤ 8796093022208) (hbase : base ≤ W.heap.size)
  (h : ∀ v' w', OwnI w' base v' (n + 1) (xs ++ [y]) → Below base W w' → wpList Tryd.prog ops Q rest (a.put o.dst v') w') :
  wpList Tryd.prog ops Q (o :: rest) a (W.alloc (.cells #[.int .i64 y] 3)) := by
 obtain ⟨i0, hi, hz0, hz1, hz2⟩ := info_parts int_info
 have hb0 : Below W.heap.size W (W.alloc (.cells #[.int .i64 y] 3)) := (Below.refl _ _).alloc (Nat.le_refl _) _
 have hown' := hown.below hb0
 refine wpList_append_own _ hgd s x 22 ho base 3 i0 (.int .i64 0) 1 8 Tryd.underlying22 hi hz0 hz1 hz2 rfl (by decide) v n _ hs hown'.row
  ⟨W.heap.size, 0, none⟩ 1 1 [.int .i64 y] hx rfl ?_ (by simp [Value.oneCell']) (by unfold maxLen; omega) (by omega) (by simp; omega) ?_
 ·intro j u hj
  cases j with
  | zero =>
   simp only [List.getElem?_cons_zero, Option.some.injEq] at hj
   subst hj
   exact (Arr.new W 3 [.int .i64 y]).cell (i := 0) (by simp)
  | succ j => simp at hj
 ·intro v' w' h1 h2 _
  have hb : Below base (W.alloc (.cells #[.int .i64 y] 3)) w' := (Below.refl _ _).grown h2 (by simp; omega) (fun k e => (hown'.row.lt k e).1)
  refine h v' w' ⟨by rw [List.length_append, hown.len]; rfl, by rw [List.map_append]; exact h1, ?_⟩ ((hb0.mono hbase).trans hb)
  intro z hz
  rcases List.mem_append.1 hz with hz | hz
  ·exact hown.bd z hz
  ·rw [List.mem_singleton] at hz; subst hz; exact hy
/-- slices.Sort of a list of one's own. -/
theorem SortOwn_any (w : World) (base : Nat) (v : Value) (n : Nat) (xs : List Int) (h : OwnI w base v n xs) (hn : n ≤ 1000000) :
  Calls Tryd.prog 68 #[v] w fun e w' => e = .returned (.tuple #[]) ∧ OwnI w' base v n (sortI xs) ∧ Below base w w' := by
 have hlen := h.len
 have hbs : ∀ x ∈ sortI xs, -9223372036854775808 ≤ x ∧ x ≤ 9223372036854775807 := fun x hx => h.bd x ((sortI_perm _).mem_iff.1 hx)
 have hln2 : (sortI xs).length = n := by rw [sortI_len, hlen]
 rcases h.row.2 with ⟨rfl, h0⟩ | ⟨g, cap, cur, rfl, hg, hgb, hnc, hcap, hcs, htake⟩
 ·refine (Tryd.slices_Sort_int_none _ _ _).mono ?_
  rintro e w2 ⟨rfl, rfl⟩
  have hnil : sortI xs = [] := List.eq_nil_of_length_eq_zero (by rw [hln2, h0])
  have hx : xs = [] := List.eq_nil_of_length_eq_zero (by rw [hlen, h0])
  rw [hnil]
  exact ⟨rfl, hx ▸ h, Below.refl _ _⟩
 ·have hlt := (Array.getElem?_eq_some_iff.1 hgb).1
  rw [Nat.mul_one] at htake
  have hlen' : n = xs.length := hlen.symm
  subst hlen'
  have hH := holds_of_blockI hgb htake
  have hsz : xs.length < 4611686018427387904 := by omega
  refine (Tryd.slices_Sort_int g 0 cap xs w hH hlt hsz).mono ?_
  rintro e w2 ⟨rfl, n, os, rfl⟩
  have hrow2 := ownsRow_sortedI (w := w) (base := base) (n := n) (os := os) (ts := sortI xs) (ss := xs) (by rw [sortI_len]) hg hgb hnc hcap hcs
  have hb2 : Below base w (grow (putRow (Value.int .i64) (Sort.ahead w n) g 0 (sortI xs).toArray) os) := (Below.refl base w).grown (grownBy_sortedI _) (by omega) fun k e => by injection e with e; omega
  exact ⟨rfl, ⟨by rw [sortI_len], hrow2, hbs⟩, hb2⟩
theorem nodup_leG {α : Type} [DecidableEq α] : ∀ (l m : List α), l.Nodup → (∀ x ∈ l, x ∈ m) → l.length ≤ m.length := by
 intro l
 induction l with
 | nil => intro m _ _; exact Nat.zero_le _
 | cons a l ih =>
  intro m hd hm
  obtain ⟨k1, k2⟩ := List.nodup_cons.1 hd
  have ha := hm a (List.mem_cons_self ..)
  have := ih (m.erase a) k2 fun x hx => (List.mem_erase_of_ne (fun e => k1 (by rw [← e]; exact hx))).2 (hm x (List.mem_cons_of_mem _ hx))
  rw [List.length_erase_of_mem ha] at this
  have := List.length_pos_of_mem ha
  rw [List.length_cons]; omega
theorem dueL_few {g : Gd} {l : List Int} (h : (l.length : Int) < g.n) : dueL g l = (0, 26) := if_pos h
theorem dueL_obj {g : Gd} {l : List Int} (h : ¬ (l.length : Int) < g.n) (h1 : g.ob = true) (h2 : nth l 0 ≤ g.la) : dueL g l = (0, 28) := by
 unfold dueL; rw [if_neg h, if_pos ⟨h1, h2⟩]
theorem dueL_at {g : Gd} {l : List Int} {k : Nat} (h : ¬ (l.length : Int) < g.n) (h1 : ¬ (g.ob = true ∧ nth l 0 ≤ g.la)) (hk : g.n = (k : Int) + 1) : dueL g l = (nth l k + g.t, 0) := by
 unfold dueL
 have e : (g.n - 1).toNat = k := by omega
 have h1' : ¬ (g.ob = true ∧ nthI l 0 ≤ g.la) := h1
 rw [if_neg h, if_neg h1', e]; rfl
/-- What was vouched, by keys that have come. -/
def atsK (vo : List ((Int × Int) × Int)) (dev : Int) (pre : List (Int × Int)) : List Int := (pre.filter fun k => decide (k.2 = dev)).map fun k => (lk vo k).getD 0
theorem atsK_snoc (vo : List ((Int × Int) × Int)) (dev : Int) (pre : List (Int × Int)) (k : Int × Int) : atsK vo dev (pre ++ [k]) = if k.2 = dev then atsK vo dev pre ++ [(lk vo k).getD 0] else atsK vo dev pre := by
 unfold atsK
 rw [List.filter_append, List.map_append]
 by_cases h : k.2 = dev
 ·simp [h]
 ·simp [h]
theorem atsK_all {g : Gd} (hn : (g.vo.map Prod.fst).Nodup) (dev : Int) {pre : List (Int × Int)} (h : pre.Perm (g.vo.map Prod.fst)) : (atsK g.vo dev pre).Perm (g.ats dev) := by
 have h1 : (atsK g.vo dev pre).Perm (atsK g.vo dev (g.vo.map Prod.fst)) := (h.filter _).map _
 have h2 : atsK g.vo dev (g.vo.map Prod.fst) = g.ats dev := by
  unfold atsK Gd.ats
  rw [List.filter_map, List.map_map]
  refine List.map_congr_left fun p hp => ?_
  have := lk_of_mem hn (List.mem_filter.1 hp).1
  show (lk g.vo p.1).getD 0 = p.2
  rw [this]; rfl
 rwa [h2] at h1
theorem keys_voV (vo : List ((Int × Int) × Int)) : (voV vo).map Prod.fst = vo.map Prod.fst := by unfold voV; rw [List.map_map]; rfl
theorem mem_voV {vo : List ((Int × Int) × Int)} {k : Int × Int} {v : Value} (h : (k, v) ∈ voV vo) : ∃ t, (k, t) ∈ vo ∧ v = .int .i64 t := by
 unfold voV at h
 obtain ⟨p, hp, e⟩ := List.mem_map.1 h
 injection e with e1 e2
 exact ⟨p.2, e1 ▸ hp, e2.symm⟩
set_option maxRecDepth 100000 in
theorem Due_none (w : World) (y : Lay) (s : RS) (n dev : Int) (hR : RollAt w y s) (hn : i64ok n) (h0 : gdO (s.memb n) = none) :
  Calls Tryd.prog 33 #[.pointer (some ⟨y.r, 0, none⟩), .int .i64 n, .int .i64 dev] w fun e w' => e = .returned (.tuple #[.int .i64 0, .int .i64 4]) ∧ w = w' := by
 have c3 := hR.c3
 rcases hR.mem hn with ⟨h1, hl⟩ | ⟨x, hx, hxn, h1, hl⟩
 ·clear h0
  go_enter Tryd.func33, Tryd.ntmps33
  go_wp2_with fail
  go_ret2
  exact ⟨rfl, rfl⟩
 ·have hg : x.m.g = none := by rw [h1] at h0; exact h0
  have q1 := (hR.mb x hx).c1
  rw [hg] at q1
  replace q1 : w.cell? ⟨x.a, 1, none⟩ = some (.pointer none) := q1
  replace hg := Lib.hid hg
  replace h1 := Lib.hid h1
  clear hxn h0
  go_enter Tryd.func33, Tryd.ntmps33
  go_wp2_with fail
  go_ret2
  exact ⟨rfl, rfl⟩
set_option maxRecDepth 100000 in
set_option maxHeartbeats 4000000 in
theorem Due_some (w : World) (y : Lay) (s : RS) (n dev : Int) (hR : RollAt w y s) (hn : i64ok n) (x : MRec) (d : Gd) (hx : x ∈ y.l) (hxn : x.n = n) (hg : x.m.g = some d) (k : Nat) (hk : k ≤ 1000) (hd : d.Ok k) :
  Calls Tryd.prog 33 #[.pointer (some ⟨y.r, 0, none⟩), .int .i64 n, .int .i64 dev] w fun e w' => e = .returned (.tuple #[.int .i64 (dueL d (sortI (d.ats dev))).1, .int .i64 (dueL d (sortI (d.ats dev))).2]) ∧ Below w.heap.size w w' := by
 have c3 := hR.c3
 have hM := hR.mb x hx
 have q1 := hM.c1
 rw [hg] at q1
 replace q1 : w.cell? ⟨x.a, 1, none⟩ = some (.pointer (some ⟨x.g, 0, none⟩)) := q1
 have hD := hM.gd d hg
 have g2 := hD.c4
 have g3 := hD.c5
 have g4 := hD.c6
 have g5 := hD.c7
 have g6 := hD.c8
 obtain ⟨z, hzd⟩ : ∃ z, Hid (z = (Ending.returned (.tuple #[.int .i64 (dueL d (sortI (d.ats dev))).1, .int .i64 (dueL d (sortI (d.ats dev))).2]))) := ⟨_, Lib.hid rfl⟩
 rw [← hzd.out]
 have hl : (Instr.lookup 79 (.map (some y.m)) (.int .i64 n) false).run Tryd.prog w = .ok (.pointer (some ⟨x.a, 0, none⟩)) w := by
  rcases hR.mem hn with ⟨h1, _⟩ | ⟨u, hu, hun, _, hl⟩
  ·have := lk_of_mem hR.msnd (hR.memS hx)
   rw [hxn] at this
   rw [RS.memb, this] at h1; cases h1
  ·rwa [hR.same hu hx (hun.trans hxn.symm)] at hl
 go_enter Tryd.func33, Tryd.ntmps33
 go_wp2_with (first
  | (at_range; refine wp_rng (K := KV) _ rfl _ 88 rfl 3 Tryd.underlying88 x.v (voV d.vo) rfl hD.vo ?_; intro w1 hrg1 hb1)
  | fail)
 go_frame
 have hz1 := hrg1.lt.2
 have hzv := hrg1.lt.1
 have hz0 := hb1.size
 clear c3 hl q1 g4
 replace hD := Lib.hid hD
 replace hM := Lib.hid hM
 replace hx := Lib.hid hx
 replace hxn := Lib.hid hxn
 replace hg := Lib.hid hg
 replace hd := Lib.hid hd
 go_loopw [10] (fun v wr => ∃ pre, Rng KV wr x.v w.heap.size (voV d.vo) pre ∧ OwnI wr w1.heap.size v (atsK d.vo dev pre).length (atsK d.vo dev pre) ∧ w1.heap.size ≤ wr.heap.size ∧ Below w.heap.size w wr)
  (fun _ wr => wr.rangeLeft x.v w.heap.size)
 case atStart => exact ⟨[], hrg1, OwnI.nil _ _, Nat.le_refl _, hb1⟩
 case round =>
  clear hrg1 hb1
  obtain ⟨pre, hrg, hown, hz2, hb⟩ := hrel
  have hfew0 : (atsK d.vo dev pre).length ≤ 8796093022208 := by
   obtain ⟨k1, k2⟩ := hrg.perm_of
   rw [keys_voV] at k2
   have h1 := nodup_leG pre _ k1 k2
   have h2 : (atsK d.vo dev pre).length ≤ pre.length := by unfold atsK; rw [List.length_map]; exact List.length_filter_le ..
   rw [List.length_map] at h1
   have := hd.out.vl
   omega
  go_wp2_with (first
   | (at_next; refine wp_nxt (K := KV) _ rfl _ rfl x.v w.heap.size (voV d.vo) pre rfl hrg ?_ ?_)
   | fail)
  ·intro hperm
   rw [keys_voV] at hperm
   have hperm2 := Lib.hid (atsK_all hd.out.vn dev hperm)
   have hfew : (atsK d.vo dev pre).length ≤ 1000000 := by
    have h1 := hperm2.out.length_eq
    have h2 : (d.ats dev).length ≤ d.vo.length := by unfold Gd.ats; rw [List.length_map]; exact List.length_filter_le ..
    have := hd.out.vl
    omega
   obtain ⟨xs, hxs⟩ : ∃ xs, Hid (atsK d.vo dev pre = xs) := ⟨_, Lib.hid rfl⟩
   rw [hxs.out] at hown hperm2 hfew
   have hso : Hid (sortI xs = sortI (d.ats dev)) := Lib.hid (sortI_congr hperm2.out)
   obtain ⟨n', hn'⟩ : ∃ n', Hid (xs.length = n') := ⟨_, Lib.hid rfl⟩
   rw [hn'.out] at hown hfew
   clear hperm
   go_wp2_with fail
   refine (SortOwn_any _ _ _ _ _ hown hfew).mono ?_
   rintro e w3 ⟨rfl, hown3, hb3⟩
   rw [hso.out] at hown3
   obtain ⟨p, c, rfl, hnc, hU, _⟩ := hown3.u
   obtain ⟨ys, hys⟩ : ∃ ys, Hid (sortI (d.ats dev) = ys) := ⟨_, Lib.hid rfl⟩
   rw [hys.out] at hown3 hzd
   have hyb : Hid (∀ t ∈ ys, 0 ≤ t ∧ t ≤ 1000000) := Lib.hid (by
    intro t ht
    rw [← hys.out, (sortI_perm _).mem_iff] at ht
    unfold Gd.ats at ht
    obtain ⟨v, hv, rfl⟩ := List.mem_map.1 ht
    exact (hd.out.vb v (List.mem_filter.1 hv).1).2.2)
   have hyl : Hid (ys.length = n') := Lib.hid hown3.len
   have hB : Below w.heap.size w w3 := hb.trans (hb3.mono hz0)
   have g2' := (hB.cell (p := ⟨x.g, 4, none⟩) (cell_lt g2)).trans g2
   have g3' := (hB.cell (p := ⟨x.g, 5, none⟩) (cell_lt g3)).trans g3
   have g5' := (hB.cell (p := ⟨x.g, 7, none⟩) (cell_lt g5)).trans g5
   have g6' := (hB.cell (p := ⟨x.g, 8, none⟩) (cell_lt g6)).trans g6
   obtain ⟨hdn0, hdn1⟩ := hd.out.hn
   obtain ⟨hdt0, hdt1⟩ := hd.out.ht
   obtain ⟨k', hk'⟩ : ∃ k' : Nat, Hid (d.n = (k' : Int) + 1) := ⟨(d.n - 1).toNat, Lib.hid (by omega)⟩
   have hkn : (d.n - 1).toNat = k' := by have := hk'.out; omega
   have hkn2 : d.n.toNat - 1 = k' := by have := hk'.out; omega
   rw [hys.out] at hU
   clear hown hown3 hrg g2 g3 g5 g6
   by_cases hA : (n' : Int) < d.n
   ·have e : Hid (z = .returned (.tuple #[.int .i64 0, .int .i64 26])) := Lib.hid (by rw [hzd.out, dueL_few (by rw [hyl.out]; exact hA)])
    go_wp2_with fail
    go_ret2
    exact ⟨e.out.symm, hB⟩
   ·have hA2 : Hid (¬ (ys.length : Int) < d.n) := Lib.hid (by rw [hyl.out]; exact hA)
    have hkl : k' < n' := by have := hk'.out; omega
    obtain ⟨b, off, rfl, _, hc0, hc1, hc2⟩ := hU.look (i := 0) (by omega)
    obtain ⟨b', off', hbe, _, hck, hck1, hck2⟩ := hU.look (i := k') hkl
    injection hbe with hbe
    injection hbe with hbe1 hbe2
    subst hbe1; subst hbe2
    have hix0 : (0 : Int) < (n' : Int) := by omega
    have hc0' : w3.cell? ⟨b, off, none⟩ = some (.int .i64 (nth ys 0)) := hc0
    have hixk : d.n - 1 < (n' : Int) := by omega
    have hixj : 0 ≤ d.n - 1 := by omega
    have hykb : 0 ≤ nth ys k' ∧ nth ys k' ≤ 1000000 := hyb.out _ (nth_mem (by rw [hyl.out]; exact hkl))
    obtain ⟨hyk0, hyk1⟩ := hykb
    cases hob : d.ob with
    | true =>
     rw [hob] at g5'
     replace hob := Lib.hid hob
     by_cases hla : nth ys 0 ≤ d.la
     ·have e : Hid (z = .returned (.tuple #[.int .i64 0, .int .i64 28])) := Lib.hid (by rw [hzd.out, dueL_obj hA2.out hob.out hla])
      go_wp2_with fail
      go_quiet (fail)
      go_wp2_with fail
      go_ret2
      exact ⟨e.out.symm, belowN hB _⟩
     ·have e : Hid (z = .returned (.tuple #[.int .i64 (nth ys k' + d.t), .int .i64 0])) := Lib.hid (by rw [hzd.out, dueL_at hA2.out (fun h => hla h.2) hk'.out])
      go_wp2_with fail
      go_quiet (fail)
      go_wp2_with fail
      go_quiet (fail)
      go_wp2_with fail
      go_ret2
      exact ⟨e.out.symm, belowN (belowN hB _) _⟩
    | false =>
     rw [hob] at g5'
     replace hob := Lib.hid hob
     have e : Hid (z = .returned (.tuple #[.int .i64 (nth ys k' + d.t), .int .i64 0])) := Lib.hid (by rw [hzd.out, dueL_at hA2.out (fun h => by rw [hob.out] at h; cases h.1) hk'.out])
     go_wp2_with fail
     go_quiet (fail)
     go_wp2_with fail
     go_quiet (fail)
     go_wp2_with fail
     go_ret2
     exact ⟨e.out.symm, belowN (belowN hB _) _⟩
  ·intro k1 k2 v w2 hmem hnp hok hrg2 hlt hgr hen
   obtain ⟨t, ht, rfl⟩ := mem_voV hmem
   have hlk : Hid (lk d.vo (k1, k2) = some t) := Lib.hid (lk_of_mem hd.out.vn ht)
   have hgt := hd.out.vb _ ht
   simp only at hgt
   obtain ⟨_, _, ht0, ht1⟩ := hgt
   have hown2 := hown.farB hgr (by omega)
   have hb2 : Below w.heap.size w w2 := hb.grown hgr hb.size fun k e => by injection e with e; omega
   have hz3 : w1.heap.size ≤ w2.heap.size := Nat.le_trans hz2 hgr.size
   replace hen : (Instr.entry (.pointer (some ⟨w.heap.size, 0, none⟩))).run Tryd.prog w2 = .ok (.tuple #[.agg #[.int .i64 k1, .int .i64 k2], .int .i64 t]) w2 := hen
   replace hmem := Lib.hid hmem
   replace hnp := Lib.hid hnp
   replace ht := Lib.hid ht
   by_cases he : k2 = dev
   ·have t1 : (k2 == dev) = true := beq_iff_eq.2 he
    have hsn : Hid (atsK d.vo dev (pre ++ [(k1, k2)]) = atsK d.vo dev pre ++ [t]) := Lib.hid (by rw [atsK_snoc, if_pos he, hlk.out]; rfl)
    clear he
    have hbl := Below.lit w2 (.cells #[.int .i64 k1, .int .i64 k2] 93)
    have hown3 := hown2.below hbl
    have hrg3 := hrg2.below hbl
    have hzz : w1.heap.size ≤ (w2.alloc (.cells #[.int .i64 k1, .int .i64 k2] 93)).heap.size := Nat.le_trans hz3 hbl.size
    go_wp2_with (first
     | (at_builtin; refine app_i rfl _ _ rfl hown3 rfl (by rw [World.size_alloc]; rfl) ⟨by omega, by omega⟩ hfew0 hzz ?_; intro v' w4 hown4 hb4)
     | fail)
    have hrg4 := hrg3.1.keep (hb4.block _ hzv) (hb4.block _ hz1)
    go_roundw
    case rel => exact ⟨pre ++ [(k1, k2)], hrg4.1, by rw [hsn.out, List.length_append]; exact hown4, Nat.le_trans hzz hb4.size, hb2.trans ((hbl.mono hb2.size).trans (hb4.mono hz0))⟩
    case measure => rw [hrg4.2, hrg3.2]; exact hlt
   ·have t1 : (k2 == dev) = false := beq_eq_false_iff_ne.2 he
    have hsn : Hid (atsK d.vo dev (pre ++ [(k1, k2)]) = atsK d.vo dev pre) := Lib.hid (by rw [atsK_snoc, if_neg he])
    clear he
    go_wp2_with fail
    have hbl := Below.lit w2 (.cells #[.int .i64 k1, .int .i64 k2] 93)
    go_roundw
    case rel => exact ⟨pre ++ [(k1, k2)], (hrg2.below hbl).1, by rw [hsn.out]; exact hown2.below hbl, Nat.le_trans hz3 hbl.size, hb2.trans (hbl.mono hb2.size)⟩
    case measure => rw [(hrg2.below (Below.lit w2 _)).2]; exact hlt
theorem Due_any (w : World) (y : Lay) (s : RS) (n dev : Int) (k : Nat) (hk : k ≤ 1000) (hR : RollAt w y s) (hs : s.Ok k) (hn : i64ok n) :
  Calls Tryd.prog 33 #[.pointer (some ⟨y.r, 0, none⟩), .int .i64 n, .int .i64 dev] w fun e w' => e = .returned (.tuple #[.int .i64 (s.due n dev).1, .int .i64 (s.due n dev).2]) ∧ Below w.heap.size w w' := by
 cases h : gdO (s.memb n) with
 | none =>
  have e : s.due n dev = (0, 4) := by unfold RS.due; rw [h]; rfl
  rw [e]
  refine (Due_none w y s n dev hR hn h).mono ?_
  rintro e w' ⟨rfl, rfl⟩
  exact ⟨rfl, Below.refl _ _⟩
 | some d =>
  have e : s.due n dev = dueL d (sortI (d.ats dev)) := by unfold RS.due; rw [h]; rfl
  rw [e]
  cases hm : s.memb n with
  | none => rw [hm] at h; cases h
  | some m =>
   rw [hm] at h
   have hmem : (n, m) ∈ s.ms := lk_mem hm
   obtain ⟨x, hx, ex⟩ := hR.ofS hmem
   injection ex with e1 e2
   subst e1; subst e2
   exact Due_some w y s x.n dev hR hn x d hx rfl h k hk (hs.gd _ hmem d h)
end Go.Proofs.YtkolilbebkkpdaaDoor

namespace Go.Proofs.YtkolilbebkkpdaaDoor
open Go.RowKit Go.Maps

theorem RS.whose_bd {s : RS} {k : Nat} (hs : s.Ok k) (i : Idn) : 0 ≤ s.whose i ∧ s.whose i ≤ 4 := by
 rcases s.whose_cases i with ⟨h0, _⟩ | ⟨p, hp, _, h0⟩
 ·omega
 ·have := hs.mem p hp
  omega
theorem guards_bd {s : RS} {k : Nat} (hs : s.Ok k) (o : OpI) : 0 ≤ (s.guards o).1 ∧ (s.guards o).1 ≤ 4 := by
 have hw := RS.whose_bd hs o.f
 unfold RS.guards
 split
 ·exact ⟨Int.le_refl _, by omega⟩
 ·unfold grd1
  split
  ·split
   ·exact hw
   ·exact ⟨Int.le_refl _, by decide⟩
  ·exact ⟨Int.le_refl _, by decide⟩
set_option maxRecDepth 100000 in
set_option maxHeartbeats 4000000 in
theorem askVouch_any (w : World) (y : Lay) (s : RS) (o : OpI) (gp : Option Addr) (gc : Nat) (m : Int) (k : Nat) (_hk : k ≤ 1000) (hR : RollAt w y s) (hs : s.Ok k) (ho : o.Ok) :
  Calls Tryd.prog 131 #[.pointer (some ⟨y.r, 0, none⟩), .agg (opC o gp gc), .int .i64 m] w fun e w' => e = .returned (.int .i64 (s.askVouch o m)) ∧ Below w.heap.size w w' := by
 have hb0 := Below.lit w (.cells (opC o gp gc) 42)
 have hR0 := hR.below hb0
 have hO := OpAt.made w o gp gc
 have hd := i64_small ho.hd
 have hoo := i64_small ho.ho
 obtain ⟨q, hq⟩ : ∃ q, Hid (s.askVouch o m = q) := ⟨_, Lib.hid rfl⟩
 rw [hq.out]
 have hgb := guards_bd hs o
 obtain ⟨g1, hg1⟩ : ∃ g1, Hid ((s.guards o).1 = g1) := ⟨_, Lib.hid rfl⟩
 obtain ⟨g2, hg2⟩ : ∃ g2, Hid ((s.guards o).2 = g2) := ⟨_, Lib.hid rfl⟩
 rw [hg1.out] at hgb
 have hgo : i64ok g1 := by unfold i64ok; omega
 go_enter Tryd.func131, Tryd.ntmps131
 go_wp2_with (first | (refine wpList_load_row rfl 42 _ rfl w.heap.size rfl 42 (opC o gp gc) (0, 0) _ hO Tryd.underlying42 rfl (by kernel_rfl) ?_) | fail)
 refine (guards_any _ y s o gp gc k hR0 hs).mono ?_
 rintro e w1 ⟨rfl, hb1⟩
 rw [hg1.out, hg2.out]
 have hB := hb0.trans (hb1.mono hb0.size)
 have hR1 := hR0.below hb1
 have hO1 := hO.below hb1 (by simp)
 have k1 := hO1.cd
 have k2 := hO1.co
 have k3 := hO1.ca
 have c1 := hR1.c1
 clear hR0 hO c1
 have c1 := hR1.c1
 by_cases hz : g2 = 0
 ·have t1 : (g2 != 0) = false := by rw [hz]; rfl
  have hz2 : (s.guards o).2 = 0 := hg2.out.trans hz
  by_cases hw : ofD o.d = g1
  ·have t2 : (ofD o.d != g1) = false := by rw [hw]; exact bne_self_eq_false _
   cases hf : s.fresh o.d with
   | false =>
    have e : Hid (q = 17) := Lib.hid (by rw [← hq.out]; unfold RS.askVouch; rw [if_neg (by rw [hz2]; simp), if_neg (by rw [hg1.out, hw]; simp), if_pos hf])
    replace hf := Lib.hid hf
    replace hz2 := Lib.hid hz2
    replace hz := Lib.hid hz
    replace hw := Lib.hid hw
    go_wp2_with (first | (go_at_call 37; refine (of_A _ y s _).mono ?_; rintro e w' ⟨rfl, rfl⟩) | (go_at_call 38; refine (fresh_A _ y s _).mono ?_; rintro e w' ⟨rfl, rfl⟩; rw [hf.out]) | (go_at_call 122; refine (rules_A _ y s _).mono ?_; rintro e w' ⟨rfl, rfl⟩; rw [hr.out]) | fail)
    go_ret
    exact ⟨ret_int e.out.symm, hB⟩
   | true =>
    have e : Hid (q = 0) := Lib.hid (by rw [← hq.out]; unfold RS.askVouch; rw [if_neg (by rw [hz2]; simp), if_neg (by rw [hg1.out, hw]; simp), if_neg (by rw [hf]; simp)])
    replace hf := Lib.hid hf
    replace hz2 := Lib.hid hz2
    replace hz := Lib.hid hz
    replace hw := Lib.hid hw
    go_wp2_with (first | (go_at_call 37; refine (of_A _ y s _).mono ?_; rintro e w' ⟨rfl, rfl⟩) | (go_at_call 38; refine (fresh_A _ y s _).mono ?_; rintro e w' ⟨rfl, rfl⟩; rw [hf.out]) | (go_at_call 122; refine (rules_A _ y s _).mono ?_; rintro e w' ⟨rfl, rfl⟩; rw [hr.out]) | fail)
    go_ret
    exact ⟨ret_int e.out.symm, hB⟩
  ·have t2 : (ofD o.d != g1) = true := bne_iff_ne.2 hw
   have e : Hid (q = 16) := Lib.hid (by rw [← hq.out]; unfold RS.askVouch; rw [if_neg (by rw [hz2]; simp), if_pos (by rw [hg1.out]; exact hw)])
   replace hz2 := Lib.hid hz2
   replace hz := Lib.hid hz
   clear hw
   go_wp2_with (first | (go_at_call 37; refine (of_A _ y s _).mono ?_; rintro e w' ⟨rfl, rfl⟩) | (go_at_call 38; refine (fresh_A _ y s _).mono ?_; rintro e w' ⟨rfl, rfl⟩; rw [hf.out]) | (go_at_call 122; refine (rules_A _ y s _).mono ?_; rintro e w' ⟨rfl, rfl⟩; rw [hr.out]) | fail)
   go_ret
   exact ⟨ret_int e.out.symm, hB⟩
 ·have t1 : (g2 != 0) = true := bne_iff_ne.2 hz
  have e : Hid (q = g2) := Lib.hid (by rw [← hq.out]; unfold RS.askVouch; rw [if_pos (by rw [hg2.out]; exact hz)]; exact hg2.out)
  clear hz
  go_wp2_with (first | (go_at_call 37; refine (of_A _ y s _).mono ?_; rintro e w' ⟨rfl, rfl⟩) | (go_at_call 38; refine (fresh_A _ y s _).mono ?_; rintro e w' ⟨rfl, rfl⟩; rw [hf.out]) | (go_at_call 122; refine (rules_A _ y s _).mono ?_; rintro e w' ⟨rfl, rfl⟩; rw [hr.out]) | fail)
  go_ret
  exact ⟨ret_int e.out.symm, hB⟩
set_option maxRecDepth 100000 in
set_option maxHeartbeats 4000000 in
theorem askReplace_any (w : World) (y : Lay) (s : RS) (o : OpI) (gp : Option Addr) (gc : Nat) (m : Int) (k : Nat) (hk : k ≤ 1000) (hR : RollAt w y s) (hs : s.Ok k) (ho : o.Ok) :
  Calls Tryd.prog 132 #[.pointer (some ⟨y.r, 0, none⟩), .agg (opC o gp gc), .int .i64 m] w fun e w' => e = .returned (.int .i64 (s.askReplace o m)) ∧ Below w.heap.size w w' := by
 have hb0 := Below.lit w (.cells (opC o gp gc) 42)
 have hR0 := hR.below hb0
 have hO := OpAt.made w o gp gc
 have hd := i64_small ho.hd
 have hoo := i64_small ho.ho
 obtain ⟨q, hq⟩ : ∃ q, Hid (s.askReplace o m = q) := ⟨_, Lib.hid rfl⟩
 rw [hq.out]
 have hgb := guards_bd hs o
 obtain ⟨g1, hg1⟩ : ∃ g1, Hid ((s.guards o).1 = g1) := ⟨_, Lib.hid rfl⟩
 obtain ⟨g2, hg2⟩ : ∃ g2, Hid ((s.guards o).2 = g2) := ⟨_, Lib.hid rfl⟩
 rw [hg1.out] at hgb
 have hgo : i64ok g1 := by unfold i64ok; omega
 go_enter Tryd.func132, Tryd.ntmps132
 go_wp2_with (first | (refine wpList_load_row rfl 42 _ rfl w.heap.size rfl 42 (opC o gp gc) (0, 0) _ hO Tryd.underlying42 rfl (by kernel_rfl) ?_) | fail)
 refine (guards_any _ y s o gp gc k hR0 hs).mono ?_
 rintro e w1 ⟨rfl, hb1⟩
 rw [hg1.out, hg2.out]
 have hB := hb0.trans (hb1.mono hb0.size)
 have hR1 := hR0.below hb1
 have hO1 := hO.below hb1 (by simp)
 have k1 := hO1.cd
 have k2 := hO1.co
 have k3 := hO1.ca
 have c1 := hR1.c1
 clear hR0 hO c1
 have c1 := hR1.c1
 by_cases hz : g2 = 0
 ·have t1 : (g2 != 0) = false := by rw [hz]; rfl
  have hz2 : (s.guards o).2 = 0 := hg2.out.trans hz
  cases hi : s.inB o.o with
  | false =>
   have e : Hid (q = 17) := Lib.hid (by rw [← hq.out]; unfold RS.askReplace; rw [if_neg (by rw [hz2]; simp), if_pos (.inl hi)])
   obtain ⟨hl, hl2⟩ := hR1.innN hoo hi
   replace hz2 := Lib.hid hz2
   replace hz := Lib.hid hz
   replace hi := Lib.hid hi
   go_wp2_with (first | (go_at_call 37; refine (of_A _ y s _).mono ?_; rintro e w' ⟨rfl, rfl⟩) | (go_at_call 38; refine (fresh_A _ y s _).mono ?_; rintro e w' ⟨rfl, rfl⟩; rw [hf.out]) | (go_at_call 122; refine (rules_A _ y s _).mono ?_; rintro e w' ⟨rfl, rfl⟩; rw [hr.out]) | fail)
   go_quiet (first | (go_at_call 37; exact Calls.quietE (of_A _ y s _)) | fail)
   go_wp2_with (first | (go_at_call 37; refine (of_A _ y s _).mono ?_; rintro e w' ⟨rfl, rfl⟩) | (go_at_call 38; refine (fresh_A _ y s _).mono ?_; rintro e w' ⟨rfl, rfl⟩; rw [hf.out]) | (go_at_call 122; refine (rules_A _ y s _).mono ?_; rintro e w' ⟨rfl, rfl⟩; rw [hr.out]) | fail)
   go_ret
   exact ⟨ret_int e.out.symm, belowN hB _⟩
  | true =>
   obtain ⟨hl, hl2⟩ := hR1.innN hoo hi
   by_cases hw : ofD o.o = g1
   ·have t2 : (ofD o.o != g1) = false := by rw [hw]; exact bne_self_eq_false _
    cases hf : s.fresh o.d with
    | false =>
     have e : Hid (q = 17) := Lib.hid (by rw [← hq.out]; unfold RS.askReplace; rw [if_neg (by rw [hz2]; simp), if_pos (.inr (.inr (.inl hf)))])
     replace hz2 := Lib.hid hz2
     replace hz := Lib.hid hz
     replace hi := Lib.hid hi
     replace hf := Lib.hid hf
     replace hw := Lib.hid hw
     go_wp2_with (first | (go_at_call 37; refine (of_A _ y s _).mono ?_; rintro e w' ⟨rfl, rfl⟩) | (go_at_call 38; refine (fresh_A _ y s _).mono ?_; rintro e w' ⟨rfl, rfl⟩; rw [hf.out]) | (go_at_call 122; refine (rules_A _ y s _).mono ?_; rintro e w' ⟨rfl, rfl⟩; rw [hr.out]) | fail)
     go_quiet (first | (go_at_call 37; exact Calls.quietE (of_A _ y s _)) | fail)
     go_wp2_with (first | (go_at_call 37; refine (of_A _ y s _).mono ?_; rintro e w' ⟨rfl, rfl⟩) | (go_at_call 38; refine (fresh_A _ y s _).mono ?_; rintro e w' ⟨rfl, rfl⟩; rw [hf.out]) | (go_at_call 122; refine (rules_A _ y s _).mono ?_; rintro e w' ⟨rfl, rfl⟩; rw [hr.out]) | fail)
     go_ret
     exact ⟨ret_int e.out.symm, belowN hB _⟩
    | true =>
     by_cases hv : ofD o.d = g1
     ·have t3 : (ofD o.d != g1) = false := by rw [hv]; exact bne_self_eq_false _
      have hnn : ¬ (s.inB o.o = false ∨ ofD o.o ≠ (s.guards o).1 ∨ s.fresh o.d = false ∨ ofD o.d ≠ (s.guards o).1) := by
       rw [hi, hf, hg1.out, hw, hv]; simp
      have hq2 : Hid (q = if (s.due g1 o.d).2 = 0 ∧ o.a < (s.due g1 o.d).1 then 27 else (s.due g1 o.d).2) := Lib.hid (by rw [← hq.out]; unfold RS.askReplace; rw [if_neg (by rw [hz2]; simp), if_neg hnn, hg1.out])
      replace hnn := Lib.hid hnn
      replace hz2 := Lib.hid hz2
      replace hz := Lib.hid hz
      replace hi := Lib.hid hi
      replace hf := Lib.hid hf
      replace hw := Lib.hid hw
      replace hv := Lib.hid hv
      go_wp2_with (first | (go_at_call 37; refine (of_A _ y s _).mono ?_; rintro e w' ⟨rfl, rfl⟩) | (go_at_call 38; refine (fresh_A _ y s _).mono ?_; rintro e w' ⟨rfl, rfl⟩; rw [hf.out]) | (go_at_call 122; refine (rules_A _ y s _).mono ?_; rintro e w' ⟨rfl, rfl⟩; rw [hr.out]) | fail)
      go_quiet (first | (go_at_call 37; exact Calls.quietE (of_A _ y s _)) | fail)
      go_wp2_with (first | (go_at_call 37; refine (of_A _ y s _).mono ?_; rintro e w' ⟨rfl, rfl⟩) | (go_at_call 38; refine (fresh_A _ y s _).mono ?_; rintro e w' ⟨rfl, rfl⟩; rw [hf.out]) | (go_at_call 122; refine (rules_A _ y s _).mono ?_; rintro e w' ⟨rfl, rfl⟩; rw [hr.out]) | fail)
      refine (Due_any _ y s g1 o.d k hk (hR1.drewN _) hs hgo).mono ?_
      rintro e w2 ⟨rfl, hb2⟩
      have hB2 : Below w.heap.size w w2 := (belowN hB _).trans (hb2.mono (belowN hB _).size)
      have k4 := (hO1.below (w' := w2) (B := w1.heap.size) ((belowN (Below.refl _ w1) _).trans hb2) (by have := cell_lt k3; exact this)).ca
      obtain ⟨d1, hd1⟩ : ∃ d1, Hid ((s.due g1 o.d).1 = d1) := ⟨_, Lib.hid rfl⟩
      obtain ⟨d2, hd2⟩ : ∃ d2, Hid ((s.due g1 o.d).2 = d2) := ⟨_, Lib.hid rfl⟩
      rw [hd1.out, hd2.out]
      by_cases hz3 : d2 = 0
      ·have t4 : (d2 == 0) = true := beq_iff_eq.2 hz3
       by_cases hlt : o.a < d1
       ·have e : Hid (q = 27) := Lib.hid (by rw [hq2.out, if_pos ⟨hd2.out.trans hz3, by rw [hd1.out]; exact hlt⟩])
        replace hz3 := Lib.hid hz3
        go_wp2_with fail
        go_ret
        exact ⟨ret_int e.out.symm, hB2⟩
       ·have e : Hid (q = d2) := Lib.hid (by rw [hq2.out, if_neg (by rw [hd1.out]; exact fun h => hlt h.2), hd2.out])
        replace hz3 := Lib.hid hz3
        go_wp2_with fail
        go_ret
        exact ⟨ret_int e.out.symm, hB2⟩
      ·have t4 : (d2 == 0) = false := beq_eq_false_iff_ne.2 hz3
       have e : Hid (q = d2) := Lib.hid (by rw [hq2.out, if_neg (by rw [hd2.out]; exact fun h => hz3 h.1), hd2.out])
       clear hz3
       go_wp2_with fail
       go_ret
       exact ⟨ret_int e.out.symm, hB2⟩
     ·have t3 : (ofD o.d != g1) = true := bne_iff_ne.2 hv
      have e : Hid (q = 17) := Lib.hid (by rw [← hq.out]; unfold RS.askReplace; rw [if_neg (by rw [hz2]; simp), if_pos (.inr (.inr (.inr (by rw [hg1.out]; exact hv))))])
      replace hz2 := Lib.hid hz2
      replace hz := Lib.hid hz
      replace hi := Lib.hid hi
      replace hf := Lib.hid hf
      replace hw := Lib.hid hw
      clear hv
      go_wp2_with (first | (go_at_call 37; refine (of_A _ y s _).mono ?_; rintro e w' ⟨rfl, rfl⟩) | (go_at_call 38; refine (fresh_A _ y s _).mono ?_; rintro e w' ⟨rfl, rfl⟩; rw [hf.out]) | (go_at_call 122; refine (rules_A _ y s _).mono ?_; rintro e w' ⟨rfl, rfl⟩; rw [hr.out]) | fail)
      go_quiet (first | (go_at_call 37; exact Calls.quietE (of_A _ y s _)) | fail)
      go_wp2_with (first | (go_at_call 37; refine (of_A _ y s _).mono ?_; rintro e w' ⟨rfl, rfl⟩) | (go_at_call 38; refine (fresh_A _ y s _).mono ?_; rintro e w' ⟨rfl, rfl⟩; rw [hf.out]) | (go_at_call 122; refine (rules_A _ y s _).mono ?_; rintro e w' ⟨rfl, rfl⟩; rw [hr.out]) | fail)
      go_ret
      exact ⟨ret_int e.out.symm, belowN hB _⟩
   ·have t2 : (ofD o.o != g1) = true := bne_iff_ne.2 hw
    have e : Hid (q = 17) := Lib.hid (by rw [← hq.out]; unfold RS.askReplace; rw [if_neg (by rw [hz2]; simp), if_pos (.inr (.inl (by rw [hg1.out]; exact hw)))])
    replace hz2 := Lib.hid hz2
    replace hz := Lib.hid hz
    replace hi := Lib.hid hi
    clear hw
    go_wp2_with (first | (go_at_call 37; refine (of_A _ y s _).mono ?_; rintro e w' ⟨rfl, rfl⟩) | (go_at_call 38; refine (fresh_A _ y s _).mono ?_; rintro e w' ⟨rfl, rfl⟩; rw [hf.out]) | (go_at_call 122; refine (rules_A _ y s _).mono ?_; rintro e w' ⟨rfl, rfl⟩; rw [hr.out]) | fail)
    go_quiet (first | (go_at_call 37; exact Calls.quietE (of_A _ y s _)) | fail)
    go_wp2_with (first | (go_at_call 37; refine (of_A _ y s _).mono ?_; rintro e w' ⟨rfl, rfl⟩) | (go_at_call 38; refine (fresh_A _ y s _).mono ?_; rintro e w' ⟨rfl, rfl⟩; rw [hf.out]) | (go_at_call 122; refine (rules_A _ y s _).mono ?_; rintro e w' ⟨rfl, rfl⟩; rw [hr.out]) | fail)
    go_ret
    exact ⟨ret_int e.out.symm, belowN hB _⟩
 ·have t1 : (g2 != 0) = true := bne_iff_ne.2 hz
  have e : Hid (q = g2) := Lib.hid (by rw [← hq.out]; unfold RS.askReplace; rw [if_pos (by rw [hg2.out]; exact hz)]; exact hg2.out)
  clear hz
  go_wp2_with (first | (go_at_call 37; refine (of_A _ y s _).mono ?_; rintro e w' ⟨rfl, rfl⟩) | (go_at_call 38; refine (fresh_A _ y s _).mono ?_; rintro e w' ⟨rfl, rfl⟩; rw [hf.out]) | (go_at_call 122; refine (rules_A _ y s _).mono ?_; rintro e w' ⟨rfl, rfl⟩; rw [hr.out]) | fail)
  go_ret
  exact ⟨ret_int e.out.symm, hB⟩
end Go.Proofs.YtkolilbebkkpdaaDoor

namespace Go.Proofs.YtkolilbebkkpdaaDoor
open Go.RowKit Go.Maps Go.BigFrame

/-- A world in which all that was there stands as it stood. -/
structure GrIn (w : World) where
 at_ : World
 gr : Below w.heap.size w at_
theorem GrIn.cells {w : World} {a : Addr} {v : Value} (h : w.cell? a = some v) (x : GrIn w) : x.at_.cell? a = some v := (x.gr.cell (cell_lt h)).trans h
instance (w : World) : Nonempty (GrIn w) := ⟨⟨w, Below.refl _ _⟩⟩
theorem in_gr {w : World} (x : GrIn w) : (∃ y : GrIn w, x.at_ = y.at_) = True := eq_true ⟨x, rfl⟩
attribute [local go_sem] in_gr
/-- A region of reads, and of calls that make memory, walked once in the text's order, cheaply. -/
theorem wp_region_gr {P : Program} {id : Nat} {Q : Exit → Act → World → Prop} {a : Act} {w : World} {l : List Oper} (hm : P.follows .mixedOrders = true) (hB : Region.lexB .any l.toArray = true)
  (h : wpQuiet P l.toArray (fun W => ∃ x : GrIn w, W = x.at_) (fun a' => ∀ w', (∃ x : GrIn w, w' = x.at_) → Q .normal a' w') l a) : (Code.region id l.toArray true).wp P Q a w :=
 wp_region_quiet (C := fun W => ∃ x : GrIn w, W = x.at_) hm hB ⟨⟨_, (Below.refl _ w).drew⟩, rfl⟩ (by simpa using h)
theorem GrIn.on {w w' : World} (x : GrIn w) (h : Below x.at_.heap.size x.at_ w') : ∃ z : GrIn w, w' = z.at_ := ⟨⟨w', x.gr.trans (h.mono x.gr.size)⟩, rfl⟩
theorem quiet_whole {C : World → Prop} {a : Act} {p : Oper} {K : Act → Prop} {b : Nat} {o : OpI} {gp : Option Addr} {gc : Nat} (x : Operand) (h : p.op = .load 42 x) (hx : a.eval x = .pointer (some ⟨b, 0, none⟩)) (hO : ∀ w, C w → OpAt w b o gp gc) (hk : K (a.put p.dst (.agg (opC o gp gc)))) : p.quiet Tryd.prog a C K :=
 ⟨_, fun w hc => by
  unfold Oper.quietAt execOp
  simp only [h, hx, Instr.loadAt, Instr.sureAddr, Sem.run_bind, Sem.run_pure, Result.andThen_ok, (hO w hc).call]
  exact ⟨rfl, rfl⟩, hk⟩
theorem fn_nil (w : World) : (binOp .eql 96 .nilFunc .nilFunc).run Tryd.prog w = .ok (.bool true) w := by kernel_rfl
theorem fn_not (f : Nat) (w : World) : (binOp .eql 96 (.func (.func f) #[] #[]) .nilFunc).run Tryd.prog w = .ok (.bool false) w := by kernel_rfl
/-- What asks holds. -/
structure Asks (w : World) : Prop where
 a0 : w.cell? ⟨0, 0, none⟩ = some .nilFunc
 a1 : w.cell? ⟨0, 1, none⟩ = some .nilFunc
 a2 : w.cell? ⟨0, 2, none⟩ = some (.func (.func 121) #[] #[])
 a3 : w.cell? ⟨0, 3, none⟩ = some (.func (.func 123) #[] #[])
 a4 : w.cell? ⟨0, 4, none⟩ = some .nilFunc
 a5 : w.cell? ⟨0, 5, none⟩ = some (.func (.func 124) #[] #[])
 a6 : w.cell? ⟨0, 6, none⟩ = some (.func (.func 125) #[] #[])
 a7 : w.cell? ⟨0, 7, none⟩ = some .nilFunc
 a8 : w.cell? ⟨0, 8, none⟩ = some (.func (.func 126) #[] #[])
 a9 : w.cell? ⟨0, 9, none⟩ = some (.func (.func 127) #[] #[])
 a10 : w.cell? ⟨0, 10, none⟩ = some (.func (.func 130) #[] #[])
 a11 : w.cell? ⟨0, 11, none⟩ = some (.func (.func 131) #[] #[])
 a12 : w.cell? ⟨0, 12, none⟩ = some (.func (.func 130) #[] #[])
 a13 : w.cell? ⟨0, 13, none⟩ = some (.func (.func 132) #[] #[])
theorem Asks.block {w w' : World} (h : Asks w) (hb : w'.heap[0]? = w.heap[0]?) : Asks w' := by
 have e : ∀ i, w'.cell? ⟨0, i, none⟩ = w.cell? ⟨0, i, none⟩ := fun i => by unfold World.cell?; rw [hb]
 exact ⟨(e _).trans h.a0, (e _).trans h.a1, (e _).trans h.a2, (e _).trans h.a3, (e _).trans h.a4, (e _).trans h.a5, (e _).trans h.a6, (e _).trans h.a7, (e _).trans h.a8, (e _).trans h.a9, (e _).trans h.a10, (e _).trans h.a11, (e _).trans h.a12, (e _).trans h.a13⟩
theorem Asks.below {w w' : World} (h : Asks w) (hb : Below w.heap.size w w') : Asks w' := h.block (hb.block 0 (cell_lt h.a0))
theorem Asks.turn {w w' : World} {F F' : List Nat} (h : Asks w) (ht : Turn w w' F F') (h0 : 0 ∉ F) : Asks w' := h.block (ht.blk 0 (cell_lt h.a0) h0)
set_option maxRecDepth 100000 in
set_option maxHeartbeats 4000000 in
theorem May_create (w : World) (y : Lay) (s : RS) (o : OpI) (gp : Option Addr) (gc : Nat) (i : Idn) (k : Nat) (_hk : k ≤ 1000) (hA : Asks w) (hR : RollAt w y s) (_hs : s.Ok k) (ho : o.Ok) (hU : UI w gp o.gs.length o.gs) (h1 : o.k = 1) :
  Calls Tryd.prog 16 #[.pointer (some ⟨y.r, 0, none⟩), .agg (opC o gp gc), .agg #[.int .i64 i.b, .int .i64 i.s, .int .u64 i.u]] w fun e w' => e = .returned (.int .i64 (s.may o)) ∧ Below w.heap.size w w' := by
 have hb1 := Below.lit w (.cells (opC o gp gc) 42)
 have hb2 := Below.lit (w.alloc (.cells (opC o gp gc) 42)) (.cells #[.int .i64 i.b, .int .i64 i.s, .int .u64 i.u] 34)
 have hO1 := OpAt.made w o gp gc
 have hO := hO1.below hb2 (by simp)
 obtain ⟨w2, hw2⟩ : ∃ w2, Hid ((w.alloc (.cells (opC o gp gc) 42)).alloc (.cells #[.int .i64 i.b, .int .i64 i.s, .int .u64 i.u] 34) = w2) := ⟨_, Lib.hid rfl⟩
 have hb : Below w.heap.size w w2 := by rw [← hw2.out]; exact hb1.trans (hb2.mono hb1.size)
 rw [hw2.out] at hO
 have hR2 := hR.below hb
 have hA2 := hA.below hb
 have hU2 := hU.below hb
 have hbo := i64_small ho.hb
 have kk := hO.ck
 have kb := hO.cb
 have c1 := hR2.c1
 have c2 := hR2.c2
 have hzw : w.heap.size < w2.heap.size := cell_lt kk
 clear hb1 hb2 hO1
 obtain ⟨q, hq⟩ : ∃ q, Hid (s.may o = q) := ⟨_, Lib.hid rfl⟩
 rw [hq.out]
 rw [h1] at kk
 have hlen := hR2.was.len (K := KI) Tryd.underlying78 3
 rw [show (setV (s.ins ++ s.gone)).length = (s.ins ++ s.gone).length by unfold setV; rw [List.length_map]] at hlen
 clear hU2 hA2
 by_cases hz : ofD o.b = 0
 ·have t : (ofD o.b == 0) = true := beq_iff_eq.2 hz
  have e : Hid (q = 17) := Lib.hid (by rw [← hq.out]; unfold RS.may; rw [if_pos h1]; exact if_pos hz)
  replace hz := Lib.hid hz
  replace h1 := Lib.hid h1
  go_enter Tryd.func16, Tryd.ntmps16
  go_wp2_with (first | (rw [hw2.out]) | (first | (go_at_call 37; refine (of_A _ y s _).mono ?_; rintro e w' ⟨rfl, rfl⟩) | (go_at_call 38; refine (fresh_A _ y s _).mono ?_; rintro e w' ⟨rfl, rfl⟩; rw [hf.out]) | (go_at_call 122; refine (rules_A _ y s _).mono ?_; rintro e w' ⟨rfl, rfl⟩; rw [hr.out]) | fail))
  go_ret
  exact ⟨ret_int e.out.symm, hb⟩
 ·have t : (ofD o.b == 0) = false := beq_eq_false_iff_ne.2 hz
  by_cases hw : s.ins ++ s.gone = []
  ·rw [hw] at hlen
   replace hlen : (Builtin.len_ #[78] 3 #[.map (some y.w)]).run Tryd.prog w2 = .ok (.int .i64 0) w2 := hlen
   have e : Hid (q = 0) := Lib.hid (by rw [← hq.out]; unfold RS.may; rw [if_pos h1]; rw [if_neg hz, if_neg (by simpa using hw)])
   replace hw := Lib.hid hw
   replace h1 := Lib.hid h1
   clear hz
   go_enter Tryd.func16, Tryd.ntmps16
   go_wp2_with (first | (rw [hw2.out]) | (first | (go_at_call 37; refine (of_A _ y s _).mono ?_; rintro e w' ⟨rfl, rfl⟩) | (go_at_call 38; refine (fresh_A _ y s _).mono ?_; rintro e w' ⟨rfl, rfl⟩; rw [hf.out]) | (go_at_call 122; refine (rules_A _ y s _).mono ?_; rintro e w' ⟨rfl, rfl⟩; rw [hr.out]) | fail))
   go_ret
   exact ⟨ret_int e.out.symm, hb⟩
  ·have hl : 0 < (s.ins ++ s.gone).length := List.length_pos_iff.2 hw
   obtain ⟨n, hn⟩ : ∃ n, Hid ((s.ins ++ s.gone).length = n) := ⟨_, Lib.hid rfl⟩
   rw [hn.out] at hlen hl
   have hl2 : (0 : Int) < (n : Int) := by omega
   have e : Hid (q = 5) := Lib.hid (by rw [← hq.out]; unfold RS.may; rw [if_pos h1]; rw [if_neg hz, if_pos hw])
   replace hw := Lib.hid hw
   replace h1 := Lib.hid h1
   clear hz
   go_enter Tryd.func16, Tryd.ntmps16
   go_wp2_with (first | (rw [hw2.out]) | (first | (go_at_call 37; refine (of_A _ y s _).mono ?_; rintro e w' ⟨rfl, rfl⟩) | (go_at_call 38; refine (fresh_A _ y s _).mono ?_; rintro e w' ⟨rfl, rfl⟩; rw [hf.out]) | (go_at_call 122; refine (rules_A _ y s _).mono ?_; rintro e w' ⟨rfl, rfl⟩; rw [hr.out]) | fail))
   go_ret
   exact ⟨ret_int e.out.symm, hb⟩
set_option maxRecDepth 100000 in
set_option maxHeartbeats 4000000 in
theorem May_gone (w : World) (y : Lay) (s : RS) (o : OpI) (gp : Option Addr) (gc : Nat) (i : Idn) (k : Nat) (_hk : k ≤ 1000) (hA : Asks w) (hR : RollAt w y s) (_hs : s.Ok k) (ho : o.Ok) (hU : UI w gp o.gs.length o.gs) (h1 : o.k ≠ 1) (hi : s.inB o.b = false) :
  Calls Tryd.prog 16 #[.pointer (some ⟨y.r, 0, none⟩), .agg (opC o gp gc), .agg #[.int .i64 i.b, .int .i64 i.s, .int .u64 i.u]] w fun e w' => e = .returned (.int .i64 (s.may o)) ∧ Below w.heap.size w w' := by
 have hb1 := Below.lit w (.cells (opC o gp gc) 42)
 have hb2 := Below.lit (w.alloc (.cells (opC o gp gc) 42)) (.cells #[.int .i64 i.b, .int .i64 i.s, .int .u64 i.u] 34)
 have hO1 := OpAt.made w o gp gc
 have hO := hO1.below hb2 (by simp)
 obtain ⟨w2, hw2⟩ : ∃ w2, Hid ((w.alloc (.cells (opC o gp gc) 42)).alloc (.cells #[.int .i64 i.b, .int .i64 i.s, .int .u64 i.u] 34) = w2) := ⟨_, Lib.hid rfl⟩
 have hb : Below w.heap.size w w2 := by rw [← hw2.out]; exact hb1.trans (hb2.mono hb1.size)
 rw [hw2.out] at hO
 have hR2 := hR.below hb
 have hA2 := hA.below hb
 have hU2 := hU.below hb
 have hbo := i64_small ho.hb
 have kk := hO.ck
 have kb := hO.cb
 have c1 := hR2.c1
 have c2 := hR2.c2
 have hzw : w.heap.size < w2.heap.size := cell_lt kk
 clear hb1 hb2 hO1
 obtain ⟨q, hq⟩ : ∃ q, Hid (s.may o = q) := ⟨_, Lib.hid rfl⟩
 rw [hq.out]
 have t : (o.k == 1) = false := beq_eq_false_iff_ne.2 h1
 obtain ⟨hl, hl2⟩ := hR2.innN hbo hi
 clear hU2 hA2
 have e : Hid (q = 15) := Lib.hid (by rw [← hq.out]; unfold RS.may; rw [if_neg h1, if_pos hi])
 clear h1
 replace hi := Lib.hid hi
 go_enter Tryd.func16, Tryd.ntmps16
 go_wp2_with (first | (rw [hw2.out]) | (first | (go_at_call 37; refine (of_A _ y s _).mono ?_; rintro e w' ⟨rfl, rfl⟩) | (go_at_call 38; refine (fresh_A _ y s _).mono ?_; rintro e w' ⟨rfl, rfl⟩; rw [hf.out]) | (go_at_call 122; refine (rules_A _ y s _).mono ?_; rintro e w' ⟨rfl, rfl⟩; rw [hr.out]) | fail))
 go_quiet (first | (go_at_call 37; exact Calls.quietE (of_A _ y s _)) | fail)
 go_wp2_with (first | (go_at_call 37; refine (of_A _ y s _).mono ?_; rintro e w' ⟨rfl, rfl⟩) | (go_at_call 38; refine (fresh_A _ y s _).mono ?_; rintro e w' ⟨rfl, rfl⟩; rw [hf.out]) | (go_at_call 122; refine (rules_A _ y s _).mono ?_; rintro e w' ⟨rfl, rfl⟩; rw [hr.out]) | fail)
 go_ret
 exact ⟨ret_int e.out.symm, belowN hb _⟩
set_option maxRecDepth 100000 in
set_option maxHeartbeats 4000000 in
theorem May_high (w : World) (y : Lay) (s : RS) (o : OpI) (gp : Option Addr) (gc : Nat) (i : Idn) (k : Nat) (_hk : k ≤ 1000) (hA : Asks w) (hR : RollAt w y s) (_hs : s.Ok k) (ho : o.Ok) (hU : UI w gp o.gs.length o.gs) (h1 : 14 ≤ o.k) (hi : s.inB o.b = true) :
  Calls Tryd.prog 16 #[.pointer (some ⟨y.r, 0, none⟩), .agg (opC o gp gc), .agg #[.int .i64 i.b, .int .i64 i.s, .int .u64 i.u]] w fun e w' => e = .returned (.int .i64 (s.may o)) ∧ Below w.heap.size w w' := by
 have hb1 := Below.lit w (.cells (opC o gp gc) 42)
 have hb2 := Below.lit (w.alloc (.cells (opC o gp gc) 42)) (.cells #[.int .i64 i.b, .int .i64 i.s, .int .u64 i.u] 34)
 have hO1 := OpAt.made w o gp gc
 have hO := hO1.below hb2 (by simp)
 obtain ⟨w2, hw2⟩ : ∃ w2, Hid ((w.alloc (.cells (opC o gp gc) 42)).alloc (.cells #[.int .i64 i.b, .int .i64 i.s, .int .u64 i.u] 34) = w2) := ⟨_, Lib.hid rfl⟩
 have hb : Below w.heap.size w w2 := by rw [← hw2.out]; exact hb1.trans (hb2.mono hb1.size)
 rw [hw2.out] at hO
 have hR2 := hR.below hb
 have hA2 := hA.below hb
 have hU2 := hU.below hb
 have hbo := i64_small ho.hb
 have kk := hO.ck
 have kb := hO.cb
 have c1 := hR2.c1
 have c2 := hR2.c2
 have hzw : w.heap.size < w2.heap.size := cell_lt kk
 clear hb1 hb2 hO1
 obtain ⟨q, hq⟩ : ∃ q, Hid (s.may o = q) := ⟨_, Lib.hid rfl⟩
 rw [hq.out]
 have t : (o.k == 1) = false := beq_eq_false_iff_ne.2 (by omega)
 obtain ⟨hl, hl2⟩ := hR2.innN hbo hi
 have hk1 := ho.hk.2
 clear hU2 hA2
 have e : Hid (q = 0) := Lib.hid (by rw [← hq.out]; unfold RS.may; rw [if_neg (by omega), if_neg (by rw [hi]; simp)]; unfold RS.ask; rw [if_neg (by omega), if_neg (by omega), if_neg (by omega), if_neg (by omega), if_neg (by omega), if_neg (by omega), if_neg (by omega), if_neg (by omega), if_neg (by omega), if_neg (by omega)])
 replace hi := Lib.hid hi
 go_enter Tryd.func16, Tryd.ntmps16
 go_wp2_with (first | (rw [hw2.out]) | (first | (go_at_call 37; refine (of_A _ y s _).mono ?_; rintro e w' ⟨rfl, rfl⟩) | (go_at_call 38; refine (fresh_A _ y s _).mono ?_; rintro e w' ⟨rfl, rfl⟩; rw [hf.out]) | (go_at_call 122; refine (rules_A _ y s _).mono ?_; rintro e w' ⟨rfl, rfl⟩; rw [hr.out]) | fail))
 go_quiet (first | (go_at_call 37; exact Calls.quietE (of_A _ y s _)) | fail)
 go_wp2_with (first | (go_at_call 37; refine (of_A _ y s _).mono ?_; rintro e w' ⟨rfl, rfl⟩) | (go_at_call 38; refine (fresh_A _ y s _).mono ?_; rintro e w' ⟨rfl, rfl⟩; rw [hf.out]) | (go_at_call 122; refine (rules_A _ y s _).mono ?_; rintro e w' ⟨rfl, rfl⟩; rw [hr.out]) | fail)
 go_ret
 exact ⟨ret_int e.out.symm, belowN hb _⟩
set_option maxRecDepth 100000 in
set_option maxHeartbeats 4000000 in
theorem May_none0 (w : World) (y : Lay) (s : RS) (o : OpI) (gp : Option Addr) (gc : Nat) (i : Idn) (k : Nat) (_hk : k ≤ 1000) (hA : Asks w) (hR : RollAt w y s) (_hs : s.Ok k) (ho : o.Ok) (hU : UI w gp o.gs.length o.gs) (h1 : o.k = 0) (hi : s.inB o.b = true) :
  Calls Tryd.prog 16 #[.pointer (some ⟨y.r, 0, none⟩), .agg (opC o gp gc), .agg #[.int .i64 i.b, .int .i64 i.s, .int .u64 i.u]] w fun e w' => e = .returned (.int .i64 (s.may o)) ∧ Below w.heap.size w w' := by
 have hb1 := Below.lit w (.cells (opC o gp gc) 42)
 have hb2 := Below.lit (w.alloc (.cells (opC o gp gc) 42)) (.cells #[.int .i64 i.b, .int .i64 i.s, .int .u64 i.u] 34)
 have hO1 := OpAt.made w o gp gc
 have hO := hO1.below hb2 (by simp)
 obtain ⟨w2, hw2⟩ : ∃ w2, Hid ((w.alloc (.cells (opC o gp gc) 42)).alloc (.cells #[.int .i64 i.b, .int .i64 i.s, .int .u64 i.u] 34) = w2) := ⟨_, Lib.hid rfl⟩
 have hb : Below w.heap.size w w2 := by rw [← hw2.out]; exact hb1.trans (hb2.mono hb1.size)
 rw [hw2.out] at hO
 have hR2 := hR.below hb
 have hA2 := hA.below hb
 have hU2 := hU.below hb
 have hbo := i64_small ho.hb
 have kk := hO.ck
 have kb := hO.cb
 have c1 := hR2.c1
 have c2 := hR2.c2
 have hzw : w.heap.size < w2.heap.size := cell_lt kk
 clear hb1 hb2 hO1
 obtain ⟨q, hq⟩ : ∃ q, Hid (s.may o = q) := ⟨_, Lib.hid rfl⟩
 rw [hq.out]
 rw [h1] at kk
 obtain ⟨hl, hl2⟩ := hR2.innN hbo hi
 have ka := hA2.a0
 have hfn := fn_not
 have hfz := fn_nil
 clear hU2 hA2
 have e : Hid (q = 0) := Lib.hid (by rw [← hq.out]; unfold RS.may; rw [if_neg (by omega), if_neg (by rw [hi]; simp)]; unfold RS.ask; rw [if_neg (by omega), if_neg (by omega), if_neg (by omega), if_neg (by omega), if_neg (by omega), if_neg (by omega), if_neg (by omega), if_neg (by omega), if_neg (by omega), if_neg (by omega)])
 replace hi := Lib.hid hi
 replace h1 := Lib.hid h1
 go_enter Tryd.func16, Tryd.ntmps16
 go_wp2_with (first | (rw [hw2.out]) | (first | (go_at_call 37; refine (of_A _ y s _).mono ?_; rintro e w' ⟨rfl, rfl⟩) | (go_at_call 38; refine (fresh_A _ y s _).mono ?_; rintro e w' ⟨rfl, rfl⟩; rw [hf.out]) | (go_at_call 122; refine (rules_A _ y s _).mono ?_; rintro e w' ⟨rfl, rfl⟩; rw [hr.out]) | fail))
 go_quiet (first | (go_at_call 37; exact Calls.quietE (of_A _ y s _)) | fail)
 go_wp2_with (first | (go_at_call 37; refine (of_A _ y s _).mono ?_; rintro e w' ⟨rfl, rfl⟩) | (go_at_call 38; refine (fresh_A _ y s _).mono ?_; rintro e w' ⟨rfl, rfl⟩; rw [hf.out]) | (go_at_call 122; refine (rules_A _ y s _).mono ?_; rintro e w' ⟨rfl, rfl⟩; rw [hr.out]) | fail)
 go_ret
 exact ⟨ret_int e.out.symm, belowN hb _⟩
set_option maxRecDepth 100000 in
set_option maxHeartbeats 4000000 in
theorem May_none4 (w : World) (y : Lay) (s : RS) (o : OpI) (gp : Option Addr) (gc : Nat) (i : Idn) (k : Nat) (_hk : k ≤ 1000) (hA : Asks w) (hR : RollAt w y s) (_hs : s.Ok k) (ho : o.Ok) (hU : UI w gp o.gs.length o.gs) (h1 : o.k = 4) (hi : s.inB o.b = true) :
  Calls Tryd.prog 16 #[.pointer (some ⟨y.r, 0, none⟩), .agg (opC o gp gc), .agg #[.int .i64 i.b, .int .i64 i.s, .int .u64 i.u]] w fun e w' => e = .returned (.int .i64 (s.may o)) ∧ Below w.heap.size w w' := by
 have hb1 := Below.lit w (.cells (opC o gp gc) 42)
 have hb2 := Below.lit (w.alloc (.cells (opC o gp gc) 42)) (.cells #[.int .i64 i.b, .int .i64 i.s, .int .u64 i.u] 34)
 have hO1 := OpAt.made w o gp gc
 have hO := hO1.below hb2 (by simp)
 obtain ⟨w2, hw2⟩ : ∃ w2, Hid ((w.alloc (.cells (opC o gp gc) 42)).alloc (.cells #[.int .i64 i.b, .int .i64 i.s, .int .u64 i.u] 34) = w2) := ⟨_, Lib.hid rfl⟩
 have hb : Below w.heap.size w w2 := by rw [← hw2.out]; exact hb1.trans (hb2.mono hb1.size)
 rw [hw2.out] at hO
 have hR2 := hR.below hb
 have hA2 := hA.below hb
 have hU2 := hU.below hb
 have hbo := i64_small ho.hb
 have kk := hO.ck
 have kb := hO.cb
 have c1 := hR2.c1
 have c2 := hR2.c2
 have hzw : w.heap.size < w2.heap.size := cell_lt kk
 clear hb1 hb2 hO1
 obtain ⟨q, hq⟩ : ∃ q, Hid (s.may o = q) := ⟨_, Lib.hid rfl⟩
 rw [hq.out]
 rw [h1] at kk
 obtain ⟨hl, hl2⟩ := hR2.innN hbo hi
 have ka := hA2.a4
 have hfn := fn_not
 have hfz := fn_nil
 clear hU2 hA2
 have e : Hid (q = 0) := Lib.hid (by rw [← hq.out]; unfold RS.may; rw [if_neg (by omega), if_neg (by rw [hi]; simp)]; unfold RS.ask; rw [if_neg (by omega), if_neg (by omega), if_neg (by omega), if_neg (by omega), if_neg (by omega), if_neg (by omega), if_neg (by omega), if_neg (by omega), if_neg (by omega), if_neg (by omega)])
 replace hi := Lib.hid hi
 replace h1 := Lib.hid h1
 go_enter Tryd.func16, Tryd.ntmps16
 go_wp2_with (first | (rw [hw2.out]) | (first | (go_at_call 37; refine (of_A _ y s _).mono ?_; rintro e w' ⟨rfl, rfl⟩) | (go_at_call 38; refine (fresh_A _ y s _).mono ?_; rintro e w' ⟨rfl, rfl⟩; rw [hf.out]) | (go_at_call 122; refine (rules_A _ y s _).mono ?_; rintro e w' ⟨rfl, rfl⟩; rw [hr.out]) | fail))
 go_quiet (first | (go_at_call 37; exact Calls.quietE (of_A _ y s _)) | fail)
 go_wp2_with (first | (go_at_call 37; refine (of_A _ y s _).mono ?_; rintro e w' ⟨rfl, rfl⟩) | (go_at_call 38; refine (fresh_A _ y s _).mono ?_; rintro e w' ⟨rfl, rfl⟩; rw [hf.out]) | (go_at_call 122; refine (rules_A _ y s _).mono ?_; rintro e w' ⟨rfl, rfl⟩; rw [hr.out]) | fail)
 go_ret
 exact ⟨ret_int e.out.symm, belowN hb _⟩
set_option maxRecDepth 100000 in
set_option maxHeartbeats 4000000 in
theorem May_none7 (w : World) (y : Lay) (s : RS) (o : OpI) (gp : Option Addr) (gc : Nat) (i : Idn) (k : Nat) (_hk : k ≤ 1000) (hA : Asks w) (hR : RollAt w y s) (_hs : s.Ok k) (ho : o.Ok) (hU : UI w gp o.gs.length o.gs) (h1 : o.k = 7) (hi : s.inB o.b = true) :
  Calls Tryd.prog 16 #[.pointer (some ⟨y.r, 0, none⟩), .agg (opC o gp gc), .agg #[.int .i64 i.b, .int .i64 i.s, .int .u64 i.u]] w fun e w' => e = .returned (.int .i64 (s.may o)) ∧ Below w.heap.size w w' := by
 have hb1 := Below.lit w (.cells (opC o gp gc) 42)
 have hb2 := Below.lit (w.alloc (.cells (opC o gp gc) 42)) (.cells #[.int .i64 i.b, .int .i64 i.s, .int .u64 i.u] 34)
 have hO1 := OpAt.made w o gp gc
 have hO := hO1.below hb2 (by simp)
 obtain ⟨w2, hw2⟩ : ∃ w2, Hid ((w.alloc (.cells (opC o gp gc) 42)).alloc (.cells #[.int .i64 i.b, .int .i64 i.s, .int .u64 i.u] 34) = w2) := ⟨_, Lib.hid rfl⟩
 have hb : Below w.heap.size w w2 := by rw [← hw2.out]; exact hb1.trans (hb2.mono hb1.size)
 rw [hw2.out] at hO
 have hR2 := hR.below hb
 have hA2 := hA.below hb
 have hU2 := hU.below hb
 have hbo := i64_small ho.hb
 have kk := hO.ck
 have kb := hO.cb
 have c1 := hR2.c1
 have c2 := hR2.c2
 have hzw : w.heap.size < w2.heap.size := cell_lt kk
 clear hb1 hb2 hO1
 obtain ⟨q, hq⟩ : ∃ q, Hid (s.may o = q) := ⟨_, Lib.hid rfl⟩
 rw [hq.out]
 rw [h1] at kk
 obtain ⟨hl, hl2⟩ := hR2.innN hbo hi
 have ka := hA2.a7
 have hfn := fn_not
 have hfz := fn_nil
 clear hU2 hA2
 have e : Hid (q = 0) := Lib.hid (by rw [← hq.out]; unfold RS.may; rw [if_neg (by omega), if_neg (by rw [hi]; simp)]; unfold RS.ask; rw [if_neg (by omega), if_neg (by omega), if_neg (by omega), if_neg (by omega), if_neg (by omega), if_neg (by omega), if_neg (by omega), if_neg (by omega), if_neg (by omega), if_neg (by omega)])
 replace hi := Lib.hid hi
 replace h1 := Lib.hid h1
 go_enter Tryd.func16, Tryd.ntmps16
 go_wp2_with (first | (rw [hw2.out]) | (first | (go_at_call 37; refine (of_A _ y s _).mono ?_; rintro e w' ⟨rfl, rfl⟩) | (go_at_call 38; refine (fresh_A _ y s _).mono ?_; rintro e w' ⟨rfl, rfl⟩; rw [hf.out]) | (go_at_call 122; refine (rules_A _ y s _).mono ?_; rintro e w' ⟨rfl, rfl⟩; rw [hr.out]) | fail))
 go_quiet (first | (go_at_call 37; exact Calls.quietE (of_A _ y s _)) | fail)
 go_wp2_with (first | (go_at_call 37; refine (of_A _ y s _).mono ?_; rintro e w' ⟨rfl, rfl⟩) | (go_at_call 38; refine (fresh_A _ y s _).mono ?_; rintro e w' ⟨rfl, rfl⟩; rw [hf.out]) | (go_at_call 122; refine (rules_A _ y s _).mono ?_; rintro e w' ⟨rfl, rfl⟩; rw [hr.out]) | fail)
 go_ret
 exact ⟨ret_int e.out.symm, belowN hb _⟩
set_option maxRecDepth 100000 in
set_option maxHeartbeats 4000000 in
theorem May_k2 (w : World) (y : Lay) (s : RS) (o : OpI) (gp : Option Addr) (gc : Nat) (i : Idn) (k : Nat) (_hk : k ≤ 1000) (hA : Asks w) (hR : RollAt w y s) (_hs : s.Ok k) (ho : o.Ok) (hU : UI w gp o.gs.length o.gs) (h1 : o.k = 2) (hi : s.inB o.b = true) :
  Calls Tryd.prog 16 #[.pointer (some ⟨y.r, 0, none⟩), .agg (opC o gp gc), .agg #[.int .i64 i.b, .int .i64 i.s, .int .u64 i.u]] w fun e w' => e = .returned (.int .i64 (s.may o)) ∧ Below w.heap.size w w' := by
 have hb1 := Below.lit w (.cells (opC o gp gc) 42)
 have hb2 := Below.lit (w.alloc (.cells (opC o gp gc) 42)) (.cells #[.int .i64 i.b, .int .i64 i.s, .int .u64 i.u] 34)
 have hO1 := OpAt.made w o gp gc
 have hO := hO1.below hb2 (by simp)
 obtain ⟨w2, hw2⟩ : ∃ w2, Hid ((w.alloc (.cells (opC o gp gc) 42)).alloc (.cells #[.int .i64 i.b, .int .i64 i.s, .int .u64 i.u] 34) = w2) := ⟨_, Lib.hid rfl⟩
 have hb : Below w.heap.size w w2 := by rw [← hw2.out]; exact hb1.trans (hb2.mono hb1.size)
 rw [hw2.out] at hO
 have hR2 := hR.below hb
 have hA2 := hA.below hb
 have hU2 := hU.below hb
 have hbo := i64_small ho.hb
 have kk := hO.ck
 have kb := hO.cb
 have c1 := hR2.c1
 have c2 := hR2.c2
 have hzw : w.heap.size < w2.heap.size := cell_lt kk
 clear hb1 hb2 hO1
 obtain ⟨q, hq⟩ : ∃ q, Hid (s.may o = q) := ⟨_, Lib.hid rfl⟩
 rw [hq.out]
 rw [h1] at kk
 obtain ⟨hl, hl2⟩ := hR2.innN hbo hi
 have ka := hA2.a2
 have hfn := fn_not
 have hfz := fn_nil
 have hmb := ofD_bd o.b
 have hmo : i64ok (ofD o.b) := by unfold i64ok; omega
 have e : Hid (q = s.askAdd o (ofD o.b)) := Lib.hid (by rw [← hq.out]; unfold RS.may; rw [if_neg (by omega), if_neg (by rw [hi]; simp)]; unfold RS.ask; rw [if_pos h1])
 replace hi := Lib.hid hi
 replace h1 := Lib.hid h1
 go_enter Tryd.func16, Tryd.ntmps16
 go_wp2_with (first | (rw [hw2.out]) | (first | (go_at_call 37; refine (of_A _ y s _).mono ?_; rintro e w' ⟨rfl, rfl⟩) | (go_at_call 38; refine (fresh_A _ y s _).mono ?_; rintro e w' ⟨rfl, rfl⟩; rw [hf.out]) | (go_at_call 122; refine (rules_A _ y s _).mono ?_; rintro e w' ⟨rfl, rfl⟩; rw [hr.out]) | fail))
 go_quiet (first | (go_at_call 37; exact Calls.quietE (of_A _ y s _)) | fail)
 go_wp2_with fail
 have hbn : Below w.heap.size w (w2.drewN nq) := belowN hb _
 have hRn := hR2.drewN nq
 have hUn := hU2.drewN nq
 have hRx : ∀ z : GrIn (w2.drewN nq), RollAt z.at_ y s := fun z => hRn.below z.gr
 have hUx : ∀ z : GrIn (w2.drewN nq), UI z.at_ gp o.gs.length o.gs := fun z => hUn.below z.gr
 have hOx : ∀ W, (∃ z : GrIn (w2.drewN nq), W = z.at_) → OpAt W w.heap.size o gp gc := fun W ⟨z, hz⟩ => by rw [hz]; exact (show OpAt (w2.drewN nq) w.heap.size o gp gc from hO).below z.gr hzw
 have kkx : ∀ z : GrIn (w2.drewN nq), z.at_.cell? ⟨w.heap.size, 2, none⟩ = some (.int .i64 2) := GrIn.cells kk
 have kbx : ∀ z : GrIn (w2.drewN nq), z.at_.cell? ⟨w.heap.size, 0, none⟩ = some (.int .i64 o.b) := GrIn.cells kb
 have kax : ∀ z : GrIn (w2.drewN nq), z.at_.cell? ⟨0, 2, none⟩ = some (.func (.func 121) #[] #[]) := GrIn.cells ka
 refine wp_region_gr (by kernel_rfl) (by kernel_rfl) ?_
 repeat (first
  | (go_big_quiet_want; refine quiet_whole _ rfl rfl hOx ?_; simp only [Act.put, List.setIfInBounds_toArray, List.set_cons_succ, List.set_cons_zero]; go_big_quiet_on)
  | go_big_quiet_step (first
   | (go_at_call 37; rename_i z; refine (of_any _ y s _ (hRx z) hbo).mono ?_; rintro e w' ⟨rfl, rfl⟩; exact ⟨rfl, ⟨_, rfl⟩⟩)
   | (go_at_call 121; rename_i z; refine (askAdd_any _ y s o gp gc _ (hRx z) hmo ho).mono ?_; rintro e w' ⟨rfl, hbz⟩; exact ⟨rfl, z.on hbz⟩)))
 refine wpQuiet_nil ?_
 intro w10 hw10'
 obtain ⟨⟨_, hw10⟩, rfl⟩ := hw10'
 go_wp2_with fail
 go_ret
 exact ⟨ret_int e.out.symm, hbn.trans (Below.mono hw10 hbn.size)⟩
set_option maxRecDepth 100000 in
set_option maxHeartbeats 4000000 in
theorem May_k3 (w : World) (y : Lay) (s : RS) (o : OpI) (gp : Option Addr) (gc : Nat) (i : Idn) (k : Nat) (_hk : k ≤ 1000) (hA : Asks w) (hR : RollAt w y s) (_hs : s.Ok k) (ho : o.Ok) (hU : UI w gp o.gs.length o.gs) (h1 : o.k = 3) (hi : s.inB o.b = true) :
  Calls Tryd.prog 16 #[.pointer (some ⟨y.r, 0, none⟩), .agg (opC o gp gc), .agg #[.int .i64 i.b, .int .i64 i.s, .int .u64 i.u]] w fun e w' => e = .returned (.int .i64 (s.may o)) ∧ Below w.heap.size w w' := by
 have hb1 := Below.lit w (.cells (opC o gp gc) 42)
 have hb2 := Below.lit (w.alloc (.cells (opC o gp gc) 42)) (.cells #[.int .i64 i.b, .int .i64 i.s, .int .u64 i.u] 34)
 have hO1 := OpAt.made w o gp gc
 have hO := hO1.below hb2 (by simp)
 obtain ⟨w2, hw2⟩ : ∃ w2, Hid ((w.alloc (.cells (opC o gp gc) 42)).alloc (.cells #[.int .i64 i.b, .int .i64 i.s, .int .u64 i.u] 34) = w2) := ⟨_, Lib.hid rfl⟩
 have hb : Below w.heap.size w w2 := by rw [← hw2.out]; exact hb1.trans (hb2.mono hb1.size)
 rw [hw2.out] at hO
 have hR2 := hR.below hb
 have hA2 := hA.below hb
 have hU2 := hU.below hb
 have hbo := i64_small ho.hb
 have kk := hO.ck
 have kb := hO.cb
 have c1 := hR2.c1
 have c2 := hR2.c2
 have hzw : w.heap.size < w2.heap.size := cell_lt kk
 clear hb1 hb2 hO1
 obtain ⟨q, hq⟩ : ∃ q, Hid (s.may o = q) := ⟨_, Lib.hid rfl⟩
 rw [hq.out]
 rw [h1] at kk
 obtain ⟨hl, hl2⟩ := hR2.innN hbo hi
 have ka := hA2.a3
 have hfn := fn_not
 have hfz := fn_nil
 have hmb := ofD_bd o.b
 have hmo : i64ok (ofD o.b) := by unfold i64ok; omega
 have e : Hid (q = s.askRemove o (ofD o.b)) := Lib.hid (by rw [← hq.out]; unfold RS.may; rw [if_neg (by omega), if_neg (by rw [hi]; simp)]; unfold RS.ask; rw [if_neg (by omega), if_pos h1])
 replace hi := Lib.hid hi
 replace h1 := Lib.hid h1
 go_enter Tryd.func16, Tryd.ntmps16
 go_wp2_with (first | (rw [hw2.out]) | (first | (go_at_call 37; refine (of_A _ y s _).mono ?_; rintro e w' ⟨rfl, rfl⟩) | (go_at_call 38; refine (fresh_A _ y s _).mono ?_; rintro e w' ⟨rfl, rfl⟩; rw [hf.out]) | (go_at_call 122; refine (rules_A _ y s _).mono ?_; rintro e w' ⟨rfl, rfl⟩; rw [hr.out]) | fail))
 go_quiet (first | (go_at_call 37; exact Calls.quietE (of_A _ y s _)) | fail)
 go_wp2_with fail
 have hbn : Below w.heap.size w (w2.drewN nq) := belowN hb _
 have hRn := hR2.drewN nq
 have hUn := hU2.drewN nq
 have hRx : ∀ z : GrIn (w2.drewN nq), RollAt z.at_ y s := fun z => hRn.below z.gr
 have hUx : ∀ z : GrIn (w2.drewN nq), UI z.at_ gp o.gs.length o.gs := fun z => hUn.below z.gr
 have hOx : ∀ W, (∃ z : GrIn (w2.drewN nq), W = z.at_) → OpAt W w.heap.size o gp gc := fun W ⟨z, hz⟩ => by rw [hz]; exact (show OpAt (w2.drewN nq) w.heap.size o gp gc from hO).below z.gr hzw
 have kkx : ∀ z : GrIn (w2.drewN nq), z.at_.cell? ⟨w.heap.size, 2, none⟩ = some (.int .i64 3) := GrIn.cells kk
 have kbx : ∀ z : GrIn (w2.drewN nq), z.at_.cell? ⟨w.heap.size, 0, none⟩ = some (.int .i64 o.b) := GrIn.cells kb
 have kax : ∀ z : GrIn (w2.drewN nq), z.at_.cell? ⟨0, 3, none⟩ = some (.func (.func 123) #[] #[]) := GrIn.cells ka
 refine wp_region_gr (by kernel_rfl) (by kernel_rfl) ?_
 repeat (first
  | (go_big_quiet_want; refine quiet_whole _ rfl rfl hOx ?_; simp only [Act.put, List.setIfInBounds_toArray, List.set_cons_succ, List.set_cons_zero]; go_big_quiet_on)
  | go_big_quiet_step (first
   | (go_at_call 37; rename_i z; refine (of_any _ y s _ (hRx z) hbo).mono ?_; rintro e w' ⟨rfl, rfl⟩; exact ⟨rfl, ⟨_, rfl⟩⟩)
   | (go_at_call 123; rename_i z; refine (askRemove_any _ y s o gp gc _ (hRx z) hmo ho).mono ?_; rintro e w' ⟨rfl, hbz⟩; exact ⟨rfl, z.on hbz⟩)))
 refine wpQuiet_nil ?_
 intro w10 hw10'
 obtain ⟨⟨_, hw10⟩, rfl⟩ := hw10'
 go_wp2_with fail
 go_ret
 exact ⟨ret_int e.out.symm, hbn.trans (Below.mono hw10 hbn.size)⟩
set_option maxRecDepth 100000 in
set_option maxHeartbeats 4000000 in
theorem May_k5 (w : World) (y : Lay) (s : RS) (o : OpI) (gp : Option Addr) (gc : Nat) (i : Idn) (k : Nat) (_hk : k ≤ 1000) (hA : Asks w) (hR : RollAt w y s) (_hs : s.Ok k) (ho : o.Ok) (hU : UI w gp o.gs.length o.gs) (h1 : o.k = 5) (hi : s.inB o.b = true) :
  Calls Tryd.prog 16 #[.pointer (some ⟨y.r, 0, none⟩), .agg (opC o gp gc), .agg #[.int .i64 i.b, .int .i64 i.s, .int .u64 i.u]] w fun e w' => e = .returned (.int .i64 (s.may o)) ∧ Below w.heap.size w w' := by
 have hb1 := Below.lit w (.cells (opC o gp gc) 42)
 have hb2 := Below.lit (w.alloc (.cells (opC o gp gc) 42)) (.cells #[.int .i64 i.b, .int .i64 i.s, .int .u64 i.u] 34)
 have hO1 := OpAt.made w o gp gc
 have hO := hO1.below hb2 (by simp)
 obtain ⟨w2, hw2⟩ : ∃ w2, Hid ((w.alloc (.cells (opC o gp gc) 42)).alloc (.cells #[.int .i64 i.b, .int .i64 i.s, .int .u64 i.u] 34) = w2) := ⟨_, Lib.hid rfl⟩
 have hb : Below w.heap.size w w2 := by rw [← hw2.out]; exact hb1.trans (hb2.mono hb1.size)
 rw [hw2.out] at hO
 have hR2 := hR.below hb
 have hA2 := hA.below hb
 have hU2 := hU.below hb
 have hbo := i64_small ho.hb
 have kk := hO.ck
 have kb := hO.cb
 have c1 := hR2.c1
 have c2 := hR2.c2
 have hzw : w.heap.size < w2.heap.size := cell_lt kk
 clear hb1 hb2 hO1
 obtain ⟨q, hq⟩ : ∃ q, Hid (s.may o = q) := ⟨_, Lib.hid rfl⟩
 rw [hq.out]
 rw [h1] at kk
 obtain ⟨hl, hl2⟩ := hR2.innN hbo hi
 have ka := hA2.a5
 have hfn := fn_not
 have hfz := fn_nil
 have hmb := ofD_bd o.b
 have hmo : i64ok (ofD o.b) := by unfold i64ok; omega
 have e : Hid (q = s.askPromote o (ofD o.b)) := Lib.hid (by rw [← hq.out]; unfold RS.may; rw [if_neg (by omega), if_neg (by rw [hi]; simp)]; unfold RS.ask; rw [if_neg (by omega), if_neg (by omega), if_pos h1])
 replace hi := Lib.hid hi
 replace h1 := Lib.hid h1
 go_enter Tryd.func16, Tryd.ntmps16
 go_wp2_with (first | (rw [hw2.out]) | (first | (go_at_call 37; refine (of_A _ y s _).mono ?_; rintro e w' ⟨rfl, rfl⟩) | (go_at_call 38; refine (fresh_A _ y s _).mono ?_; rintro e w' ⟨rfl, rfl⟩; rw [hf.out]) | (go_at_call 122; refine (rules_A _ y s _).mono ?_; rintro e w' ⟨rfl, rfl⟩; rw [hr.out]) | fail))
 go_quiet (first | (go_at_call 37; exact Calls.quietE (of_A _ y s _)) | fail)
 go_wp2_with fail
 have hbn : Below w.heap.size w (w2.drewN nq) := belowN hb _
 have hRn := hR2.drewN nq
 have hUn := hU2.drewN nq
 have hRx : ∀ z : GrIn (w2.drewN nq), RollAt z.at_ y s := fun z => hRn.below z.gr
 have hUx : ∀ z : GrIn (w2.drewN nq), UI z.at_ gp o.gs.length o.gs := fun z => hUn.below z.gr
 have hOx : ∀ W, (∃ z : GrIn (w2.drewN nq), W = z.at_) → OpAt W w.heap.size o gp gc := fun W ⟨z, hz⟩ => by rw [hz]; exact (show OpAt (w2.drewN nq) w.heap.size o gp gc from hO).below z.gr hzw
 have kkx : ∀ z : GrIn (w2.drewN nq), z.at_.cell? ⟨w.heap.size, 2, none⟩ = some (.int .i64 5) := GrIn.cells kk
 have kbx : ∀ z : GrIn (w2.drewN nq), z.at_.cell? ⟨w.heap.size, 0, none⟩ = some (.int .i64 o.b) := GrIn.cells kb
 have kax : ∀ z : GrIn (w2.drewN nq), z.at_.cell? ⟨0, 5, none⟩ = some (.func (.func 124) #[] #[]) := GrIn.cells ka
 refine wp_region_gr (by kernel_rfl) (by kernel_rfl) ?_
 repeat (first
  | (go_big_quiet_want; refine quiet_whole _ rfl rfl hOx ?_; simp only [Act.put, List.setIfInBounds_toArray, List.set_cons_succ, List.set_cons_zero]; go_big_quiet_on)
  | go_big_quiet_step (first
   | (go_at_call 37; rename_i z; refine (of_any _ y s _ (hRx z) hbo).mono ?_; rintro e w' ⟨rfl, rfl⟩; exact ⟨rfl, ⟨_, rfl⟩⟩)
   | (go_at_call 124; rename_i z; refine (askPromote_any _ y s o gp gc _ (hRx z) hmo ho).mono ?_; rintro e w' ⟨rfl, hbz⟩; exact ⟨rfl, z.on hbz⟩)))
 refine wpQuiet_nil ?_
 intro w10 hw10'
 obtain ⟨⟨_, hw10⟩, rfl⟩ := hw10'
 go_wp2_with fail
 go_ret
 exact ⟨ret_int e.out.symm, hbn.trans (Below.mono hw10 hbn.size)⟩
set_option maxRecDepth 100000 in
set_option maxHeartbeats 4000000 in
theorem May_k6 (w : World) (y : Lay) (s : RS) (o : OpI) (gp : Option Addr) (gc : Nat) (i : Idn) (k : Nat) (_hk : k ≤ 1000) (hA : Asks w) (hR : RollAt w y s) (_hs : s.Ok k) (ho : o.Ok) (hU : UI w gp o.gs.length o.gs) (h1 : o.k = 6) (hi : s.inB o.b = true) :
  Calls Tryd.prog 16 #[.pointer (some ⟨y.r, 0, none⟩), .agg (opC o gp gc), .agg #[.int .i64 i.b, .int .i64 i.s, .int .u64 i.u]] w fun e w' => e = .returned (.int .i64 (s.may o)) ∧ Below w.heap.size w w' := by
 have hb1 := Below.lit w (.cells (opC o gp gc) 42)
 have hb2 := Below.lit (w.alloc (.cells (opC o gp gc) 42)) (.cells #[.int .i64 i.b, .int .i64 i.s, .int .u64 i.u] 34)
 have hO1 := OpAt.made w o gp gc
 have hO := hO1.below hb2 (by simp)
 obtain ⟨w2, hw2⟩ : ∃ w2, Hid ((w.alloc (.cells (opC o gp gc) 42)).alloc (.cells #[.int .i64 i.b, .int .i64 i.s, .int .u64 i.u] 34) = w2) := ⟨_, Lib.hid rfl⟩
 have hb : Below w.heap.size w w2 := by rw [← hw2.out]; exact hb1.trans (hb2.mono hb1.size)
 rw [hw2.out] at hO
 have hR2 := hR.below hb
 have hA2 := hA.below hb
 have hU2 := hU.below hb
 have hbo := i64_small ho.hb
 have kk := hO.ck
 have kb := hO.cb
 have c1 := hR2.c1
 have c2 := hR2.c2
 have hzw : w.heap.size < w2.heap.size := cell_lt kk
 clear hb1 hb2 hO1
 obtain ⟨q, hq⟩ : ∃ q, Hid (s.may o = q) := ⟨_, Lib.hid rfl⟩
 rw [hq.out]
 rw [h1] at kk
 obtain ⟨hl, hl2⟩ := hR2.innN hbo hi
 have ka := hA2.a6
 have hfn := fn_not
 have hfz := fn_nil
 have hmb := ofD_bd o.b
 have hmo : i64ok (ofD o.b) := by unfold i64ok; omega
 have e : Hid (q = s.askMessage o (ofD o.b)) := Lib.hid (by rw [← hq.out]; unfold RS.may; rw [if_neg (by omega), if_neg (by rw [hi]; simp)]; unfold RS.ask; rw [if_neg (by omega), if_neg (by omega), if_neg (by omega), if_pos h1])
 replace hi := Lib.hid hi
 replace h1 := Lib.hid h1
 go_enter Tryd.func16, Tryd.ntmps16
 go_wp2_with (first | (rw [hw2.out]) | (first | (go_at_call 37; refine (of_A _ y s _).mono ?_; rintro e w' ⟨rfl, rfl⟩) | (go_at_call 38; refine (fresh_A _ y s _).mono ?_; rintro e w' ⟨rfl, rfl⟩; rw [hf.out]) | (go_at_call 122; refine (rules_A _ y s _).mono ?_; rintro e w' ⟨rfl, rfl⟩; rw [hr.out]) | fail))
 go_quiet (first | (go_at_call 37; exact Calls.quietE (of_A _ y s _)) | fail)
 go_wp2_with fail
 have hbn : Below w.heap.size w (w2.drewN nq) := belowN hb _
 have hRn := hR2.drewN nq
 have hUn := hU2.drewN nq
 have hRx : ∀ z : GrIn (w2.drewN nq), RollAt z.at_ y s := fun z => hRn.below z.gr
 have hUx : ∀ z : GrIn (w2.drewN nq), UI z.at_ gp o.gs.length o.gs := fun z => hUn.below z.gr
 have hOx : ∀ W, (∃ z : GrIn (w2.drewN nq), W = z.at_) → OpAt W w.heap.size o gp gc := fun W ⟨z, hz⟩ => by rw [hz]; exact (show OpAt (w2.drewN nq) w.heap.size o gp gc from hO).below z.gr hzw
 have kkx : ∀ z : GrIn (w2.drewN nq), z.at_.cell? ⟨w.heap.size, 2, none⟩ = some (.int .i64 6) := GrIn.cells kk
 have kbx : ∀ z : GrIn (w2.drewN nq), z.at_.cell? ⟨w.heap.size, 0, none⟩ = some (.int .i64 o.b) := GrIn.cells kb
 have kax : ∀ z : GrIn (w2.drewN nq), z.at_.cell? ⟨0, 6, none⟩ = some (.func (.func 125) #[] #[]) := GrIn.cells ka
 refine wp_region_gr (by kernel_rfl) (by kernel_rfl) ?_
 repeat (first
  | (go_big_quiet_want; refine quiet_whole _ rfl rfl hOx ?_; simp only [Act.put, List.setIfInBounds_toArray, List.set_cons_succ, List.set_cons_zero]; go_big_quiet_on)
  | go_big_quiet_step (first
   | (go_at_call 37; rename_i z; refine (of_any _ y s _ (hRx z) hbo).mono ?_; rintro e w' ⟨rfl, rfl⟩; exact ⟨rfl, ⟨_, rfl⟩⟩)
   | (go_at_call 125; rename_i z; refine (askMessage_any _ y s o gp gc _ (hRx z) hmo).mono ?_; rintro e w' ⟨rfl, hbz⟩; exact ⟨rfl, z.on hbz⟩)))
 refine wpQuiet_nil ?_
 intro w10 hw10'
 obtain ⟨⟨_, hw10⟩, rfl⟩ := hw10'
 go_wp2_with fail
 go_ret
 exact ⟨ret_int e.out.symm, hbn.trans (Below.mono hw10 hbn.size)⟩
set_option maxRecDepth 100000 in
set_option maxHeartbeats 4000000 in
theorem May_k8 (w : World) (y : Lay) (s : RS) (o : OpI) (gp : Option Addr) (gc : Nat) (i : Idn) (k : Nat) (_hk : k ≤ 1000) (hA : Asks w) (hR : RollAt w y s) (_hs : s.Ok k) (ho : o.Ok) (hU : UI w gp o.gs.length o.gs) (h1 : o.k = 8) (hi : s.inB o.b = true) :
  Calls Tryd.prog 16 #[.pointer (some ⟨y.r, 0, none⟩), .agg (opC o gp gc), .agg #[.int .i64 i.b, .int .i64 i.s, .int .u64 i.u]] w fun e w' => e = .returned (.int .i64 (s.may o)) ∧ Below w.heap.size w w' := by
 have hb1 := Below.lit w (.cells (opC o gp gc) 42)
 have hb2 := Below.lit (w.alloc (.cells (opC o gp gc) 42)) (.cells #[.int .i64 i.b, .int .i64 i.s, .int .u64 i.u] 34)
 have hO1 := OpAt.made w o gp gc
 have hO := hO1.below hb2 (by simp)
 obtain ⟨w2, hw2⟩ : ∃ w2, Hid ((w.alloc (.cells (opC o gp gc) 42)).alloc (.cells #[.int .i64 i.b, .int .i64 i.s, .int .u64 i.u] 34) = w2) := ⟨_, Lib.hid rfl⟩
 have hb : Below w.heap.size w w2 := by rw [← hw2.out]; exact hb1.trans (hb2.mono hb1.size)
 rw [hw2.out] at hO
 have hR2 := hR.below hb
 have hA2 := hA.below hb
 have hU2 := hU.below hb
 have hbo := i64_small ho.hb
 have kk := hO.ck
 have kb := hO.cb
 have c1 := hR2.c1
 have c2 := hR2.c2
 have hzw : w.heap.size < w2.heap.size := cell_lt kk
 clear hb1 hb2 hO1
 obtain ⟨q, hq⟩ : ∃ q, Hid (s.may o = q) := ⟨_, Lib.hid rfl⟩
 rw [hq.out]
 rw [h1] at kk
 obtain ⟨hl, hl2⟩ := hR2.innN hbo hi
 have ka := hA2.a8
 have hfn := fn_not
 have hfz := fn_nil
 have hmb := ofD_bd o.b
 have hmo : i64ok (ofD o.b) := by unfold i64ok; omega
 have e : Hid (q = s.askErase o (ofD o.b)) := Lib.hid (by rw [← hq.out]; unfold RS.may; rw [if_neg (by omega), if_neg (by rw [hi]; simp)]; unfold RS.ask; rw [if_neg (by omega), if_neg (by omega), if_neg (by omega), if_neg (by omega), if_pos h1])
 replace hi := Lib.hid hi
 replace h1 := Lib.hid h1
 go_enter Tryd.func16, Tryd.ntmps16
 go_wp2_with (first | (rw [hw2.out]) | (first | (go_at_call 37; refine (of_A _ y s _).mono ?_; rintro e w' ⟨rfl, rfl⟩) | (go_at_call 38; refine (fresh_A _ y s _).mono ?_; rintro e w' ⟨rfl, rfl⟩; rw [hf.out]) | (go_at_call 122; refine (rules_A _ y s _).mono ?_; rintro e w' ⟨rfl, rfl⟩; rw [hr.out]) | fail))
 go_quiet (first | (go_at_call 37; exact Calls.quietE (of_A _ y s _)) | fail)
 go_wp2_with fail
 have hbn : Below w.heap.size w (w2.drewN nq) := belowN hb _
 have hRn := hR2.drewN nq
 have hUn := hU2.drewN nq
 have hRx : ∀ z : GrIn (w2.drewN nq), RollAt z.at_ y s := fun z => hRn.below z.gr
 have hUx : ∀ z : GrIn (w2.drewN nq), UI z.at_ gp o.gs.length o.gs := fun z => hUn.below z.gr
 have hOx : ∀ W, (∃ z : GrIn (w2.drewN nq), W = z.at_) → OpAt W w.heap.size o gp gc := fun W ⟨z, hz⟩ => by rw [hz]; exact (show OpAt (w2.drewN nq) w.heap.size o gp gc from hO).below z.gr hzw
 have kkx : ∀ z : GrIn (w2.drewN nq), z.at_.cell? ⟨w.heap.size, 2, none⟩ = some (.int .i64 8) := GrIn.cells kk
 have kbx : ∀ z : GrIn (w2.drewN nq), z.at_.cell? ⟨w.heap.size, 0, none⟩ = some (.int .i64 o.b) := GrIn.cells kb
 have kax : ∀ z : GrIn (w2.drewN nq), z.at_.cell? ⟨0, 8, none⟩ = some (.func (.func 126) #[] #[]) := GrIn.cells ka
 refine wp_region_gr (by kernel_rfl) (by kernel_rfl) ?_
 repeat (first
  | (go_big_quiet_want; refine quiet_whole _ rfl rfl hOx ?_; simp only [Act.put, List.setIfInBounds_toArray, List.set_cons_succ, List.set_cons_zero]; go_big_quiet_on)
  | go_big_quiet_step (first
   | (go_at_call 37; rename_i z; refine (of_any _ y s _ (hRx z) hbo).mono ?_; rintro e w' ⟨rfl, rfl⟩; exact ⟨rfl, ⟨_, rfl⟩⟩)
   | (go_at_call 126; rename_i z; refine (askErase_any _ y s o gp gc _ (hRx z) hmo ho).mono ?_; rintro e w' ⟨rfl, hbz⟩; exact ⟨rfl, z.on hbz⟩)))
 refine wpQuiet_nil ?_
 intro w10 hw10'
 obtain ⟨⟨_, hw10⟩, rfl⟩ := hw10'
 go_wp2_with fail
 go_ret
 exact ⟨ret_int e.out.symm, hbn.trans (Below.mono hw10 hbn.size)⟩
set_option maxRecDepth 100000 in
set_option maxHeartbeats 4000000 in
theorem May_k9 (w : World) (y : Lay) (s : RS) (o : OpI) (gp : Option Addr) (gc : Nat) (i : Idn) (k : Nat) (_hk : k ≤ 1000) (hA : Asks w) (hR : RollAt w y s) (_hs : s.Ok k) (ho : o.Ok) (hU : UI w gp o.gs.length o.gs) (h1 : o.k = 9) (hi : s.inB o.b = true) :
  Calls Tryd.prog 16 #[.pointer (some ⟨y.r, 0, none⟩), .agg (opC o gp gc), .agg #[.int .i64 i.b, .int .i64 i.s, .int .u64 i.u]] w fun e w' => e = .returned (.int .i64 (s.may o)) ∧ Below w.heap.size w w' := by
 have hb1 := Below.lit w (.cells (opC o gp gc) 42)
 have hb2 := Below.lit (w.alloc (.cells (opC o gp gc) 42)) (.cells #[.int .i64 i.b, .int .i64 i.s, .int .u64 i.u] 34)
 have hO1 := OpAt.made w o gp gc
 have hO := hO1.below hb2 (by simp)
 obtain ⟨w2, hw2⟩ : ∃ w2, Hid ((w.alloc (.cells (opC o gp gc) 42)).alloc (.cells #[.int .i64 i.b, .int .i64 i.s, .int .u64 i.u] 34) = w2) := ⟨_, Lib.hid rfl⟩
 have hb : Below w.heap.size w w2 := by rw [← hw2.out]; exact hb1.trans (hb2.mono hb1.size)
 rw [hw2.out] at hO
 have hR2 := hR.below hb
 have hA2 := hA.below hb
 have hU2 := hU.below hb
 have hbo := i64_small ho.hb
 have kk := hO.ck
 have kb := hO.cb
 have c1 := hR2.c1
 have c2 := hR2.c2
 have hzw : w.heap.size < w2.heap.size := cell_lt kk
 clear hb1 hb2 hO1
 obtain ⟨q, hq⟩ : ∃ q, Hid (s.may o = q) := ⟨_, Lib.hid rfl⟩
 rw [hq.out]
 rw [h1] at kk
 obtain ⟨hl, hl2⟩ := hR2.innN hbo hi
 have ka := hA2.a9
 have hfn := fn_not
 have hfz := fn_nil
 have hmb := ofD_bd o.b
 have hmo : i64ok (ofD o.b) := by unfold i64ok; omega
 have e : Hid (q = s.askGuard o (ofD o.b)) := Lib.hid (by rw [← hq.out]; unfold RS.may; rw [if_neg (by omega), if_neg (by rw [hi]; simp)]; unfold RS.ask; rw [if_neg (by omega), if_neg (by omega), if_neg (by omega), if_neg (by omega), if_neg (by omega), if_pos h1])
 replace hi := Lib.hid hi
 replace h1 := Lib.hid h1
 go_enter Tryd.func16, Tryd.ntmps16
 go_wp2_with (first | (rw [hw2.out]) | (first | (go_at_call 37; refine (of_A _ y s _).mono ?_; rintro e w' ⟨rfl, rfl⟩) | (go_at_call 38; refine (fresh_A _ y s _).mono ?_; rintro e w' ⟨rfl, rfl⟩; rw [hf.out]) | (go_at_call 122; refine (rules_A _ y s _).mono ?_; rintro e w' ⟨rfl, rfl⟩; rw [hr.out]) | fail))
 go_quiet (first | (go_at_call 37; exact Calls.quietE (of_A _ y s _)) | fail)
 go_wp2_with fail
 have hbn : Below w.heap.size w (w2.drewN nq) := belowN hb _
 have hRn := hR2.drewN nq
 have hUn := hU2.drewN nq
 have hRx : ∀ z : GrIn (w2.drewN nq), RollAt z.at_ y s := fun z => hRn.below z.gr
 have hUx : ∀ z : GrIn (w2.drewN nq), UI z.at_ gp o.gs.length o.gs := fun z => hUn.below z.gr
 have hOx : ∀ W, (∃ z : GrIn (w2.drewN nq), W = z.at_) → OpAt W w.heap.size o gp gc := fun W ⟨z, hz⟩ => by rw [hz]; exact (show OpAt (w2.drewN nq) w.heap.size o gp gc from hO).below z.gr hzw
 have kkx : ∀ z : GrIn (w2.drewN nq), z.at_.cell? ⟨w.heap.size, 2, none⟩ = some (.int .i64 9) := GrIn.cells kk
 have kbx : ∀ z : GrIn (w2.drewN nq), z.at_.cell? ⟨w.heap.size, 0, none⟩ = some (.int .i64 o.b) := GrIn.cells kb
 have kax : ∀ z : GrIn (w2.drewN nq), z.at_.cell? ⟨0, 9, none⟩ = some (.func (.func 127) #[] #[]) := GrIn.cells ka
 refine wp_region_gr (by kernel_rfl) (by kernel_rfl) ?_
 repeat (first
  | (go_big_quiet_want; refine quiet_whole _ rfl rfl hOx ?_; simp only [Act.put, List.setIfInBounds_toArray, List.set_cons_succ, List.set_cons_zero]; go_big_quiet_on)
  | go_big_quiet_step (first
   | (go_at_call 37; rename_i z; refine (of_any _ y s _ (hRx z) hbo).mono ?_; rintro e w' ⟨rfl, rfl⟩; exact ⟨rfl, ⟨_, rfl⟩⟩)
   | (go_at_call 127; rename_i z; refine (askGuard_any _ y s o gp gc _ (hRx z) (hUx z) ho.hgl).mono ?_; rintro e w' ⟨rfl, hbz⟩; exact ⟨rfl, z.on hbz⟩)))
 refine wpQuiet_nil ?_
 intro w10 hw10'
 obtain ⟨⟨_, hw10⟩, rfl⟩ := hw10'
 go_wp2_with fail
 go_ret
 exact ⟨ret_int e.out.symm, hbn.trans (Below.mono hw10 hbn.size)⟩
set_option maxRecDepth 100000 in
set_option maxHeartbeats 4000000 in
theorem May_k10 (w : World) (y : Lay) (s : RS) (o : OpI) (gp : Option Addr) (gc : Nat) (i : Idn) (k : Nat) (_hk : k ≤ 1000) (hA : Asks w) (hR : RollAt w y s) (_hs : s.Ok k) (ho : o.Ok) (hU : UI w gp o.gs.length o.gs) (h1 : o.k = 10) (hi : s.inB o.b = true) :
  Calls Tryd.prog 16 #[.pointer (some ⟨y.r, 0, none⟩), .agg (opC o gp gc), .agg #[.int .i64 i.b, .int .i64 i.s, .int .u64 i.u]] w fun e w' => e = .returned (.int .i64 (s.may o)) ∧ Below w.heap.size w w' := by
 have hb1 := Below.lit w (.cells (opC o gp gc) 42)
 have hb2 := Below.lit (w.alloc (.cells (opC o gp gc) 42)) (.cells #[.int .i64 i.b, .int .i64 i.s, .int .u64 i.u] 34)
 have hO1 := OpAt.made w o gp gc
 have hO := hO1.below hb2 (by simp)
 obtain ⟨w2, hw2⟩ : ∃ w2, Hid ((w.alloc (.cells (opC o gp gc) 42)).alloc (.cells #[.int .i64 i.b, .int .i64 i.s, .int .u64 i.u] 34) = w2) := ⟨_, Lib.hid rfl⟩
 have hb : Below w.heap.size w w2 := by rw [← hw2.out]; exact hb1.trans (hb2.mono hb1.size)
 rw [hw2.out] at hO
 have hR2 := hR.below hb
 have hA2 := hA.below hb
 have hU2 := hU.below hb
 have hbo := i64_small ho.hb
 have kk := hO.ck
 have kb := hO.cb
 have c1 := hR2.c1
 have c2 := hR2.c2
 have hzw : w.heap.size < w2.heap.size := cell_lt kk
 clear hb1 hb2 hO1
 obtain ⟨q, hq⟩ : ∃ q, Hid (s.may o = q) := ⟨_, Lib.hid rfl⟩
 rw [hq.out]
 rw [h1] at kk
 obtain ⟨hl, hl2⟩ := hR2.innN hbo hi
 have ka := hA2.a10
 have hfn := fn_not
 have hfz := fn_nil
 have hmb := ofD_bd o.b
 have hmo : i64ok (ofD o.b) := by unfold i64ok; omega
 have e : Hid (q = s.askOwn o (ofD o.b)) := Lib.hid (by rw [← hq.out]; unfold RS.may; rw [if_neg (by omega), if_neg (by rw [hi]; simp)]; unfold RS.ask; rw [if_neg (by omega), if_neg (by omega), if_neg (by omega), if_neg (by omega), if_neg (by omega), if_neg (by omega), if_pos h1])
 replace hi := Lib.hid hi
 replace h1 := Lib.hid h1
 go_enter Tryd.func16, Tryd.ntmps16
 go_wp2_with (first | (rw [hw2.out]) | (first | (go_at_call 37; refine (of_A _ y s _).mono ?_; rintro e w' ⟨rfl, rfl⟩) | (go_at_call 38; refine (fresh_A _ y s _).mono ?_; rintro e w' ⟨rfl, rfl⟩; rw [hf.out]) | (go_at_call 122; refine (rules_A _ y s _).mono ?_; rintro e w' ⟨rfl, rfl⟩; rw [hr.out]) | fail))
 go_quiet (first | (go_at_call 37; exact Calls.quietE (of_A _ y s _)) | fail)
 go_wp2_with fail
 have hbn : Below w.heap.size w (w2.drewN nq) := belowN hb _
 have hRn := hR2.drewN nq
 have hUn := hU2.drewN nq
 have hRx : ∀ z : GrIn (w2.drewN nq), RollAt z.at_ y s := fun z => hRn.below z.gr
 have hUx : ∀ z : GrIn (w2.drewN nq), UI z.at_ gp o.gs.length o.gs := fun z => hUn.below z.gr
 have hOx : ∀ W, (∃ z : GrIn (w2.drewN nq), W = z.at_) → OpAt W w.heap.size o gp gc := fun W ⟨z, hz⟩ => by rw [hz]; exact (show OpAt (w2.drewN nq) w.heap.size o gp gc from hO).below z.gr hzw
 have kkx : ∀ z : GrIn (w2.drewN nq), z.at_.cell? ⟨w.heap.size, 2, none⟩ = some (.int .i64 10) := GrIn.cells kk
 have kbx : ∀ z : GrIn (w2.drewN nq), z.at_.cell? ⟨w.heap.size, 0, none⟩ = some (.int .i64 o.b) := GrIn.cells kb
 have kax : ∀ z : GrIn (w2.drewN nq), z.at_.cell? ⟨0, 10, none⟩ = some (.func (.func 130) #[] #[]) := GrIn.cells ka
 refine wp_region_gr (by kernel_rfl) (by kernel_rfl) ?_
 repeat (first
  | (go_big_quiet_want; refine quiet_whole _ rfl rfl hOx ?_; simp only [Act.put, List.setIfInBounds_toArray, List.set_cons_succ, List.set_cons_zero]; go_big_quiet_on)
  | go_big_quiet_step (first
   | (go_at_call 37; rename_i z; refine (of_any _ y s _ (hRx z) hbo).mono ?_; rintro e w' ⟨rfl, rfl⟩; exact ⟨rfl, ⟨_, rfl⟩⟩)
   | (go_at_call 130; rename_i z; refine (own_any _ y s o gp gc _ (hRx z) hmo).mono ?_; rintro e w' ⟨rfl, hbz⟩; exact ⟨rfl, z.on hbz⟩)))
 refine wpQuiet_nil ?_
 intro w10 hw10'
 obtain ⟨⟨_, hw10⟩, rfl⟩ := hw10'
 go_wp2_with fail
 go_ret
 exact ⟨ret_int e.out.symm, hbn.trans (Below.mono hw10 hbn.size)⟩
set_option maxRecDepth 100000 in
set_option maxHeartbeats 4000000 in
theorem May_k11 (w : World) (y : Lay) (s : RS) (o : OpI) (gp : Option Addr) (gc : Nat) (i : Idn) (k : Nat) (hk : k ≤ 1000) (hA : Asks w) (hR : RollAt w y s) (hs : s.Ok k) (ho : o.Ok) (hU : UI w gp o.gs.length o.gs) (h1 : o.k = 11) (hi : s.inB o.b = true) :
  Calls Tryd.prog 16 #[.pointer (some ⟨y.r, 0, none⟩), .agg (opC o gp gc), .agg #[.int .i64 i.b, .int .i64 i.s, .int .u64 i.u]] w fun e w' => e = .returned (.int .i64 (s.may o)) ∧ Below w.heap.size w w' := by
 have hb1 := Below.lit w (.cells (opC o gp gc) 42)
 have hb2 := Below.lit (w.alloc (.cells (opC o gp gc) 42)) (.cells #[.int .i64 i.b, .int .i64 i.s, .int .u64 i.u] 34)
 have hO1 := OpAt.made w o gp gc
 have hO := hO1.below hb2 (by simp)
 obtain ⟨w2, hw2⟩ : ∃ w2, Hid ((w.alloc (.cells (opC o gp gc) 42)).alloc (.cells #[.int .i64 i.b, .int .i64 i.s, .int .u64 i.u] 34) = w2) := ⟨_, Lib.hid rfl⟩
 have hb : Below w.heap.size w w2 := by rw [← hw2.out]; exact hb1.trans (hb2.mono hb1.size)
 rw [hw2.out] at hO
 have hR2 := hR.below hb
 have hA2 := hA.below hb
 have hU2 := hU.below hb
 have hbo := i64_small ho.hb
 have kk := hO.ck
 have kb := hO.cb
 have c1 := hR2.c1
 have c2 := hR2.c2
 have hzw : w.heap.size < w2.heap.size := cell_lt kk
 clear hb1 hb2 hO1
 obtain ⟨q, hq⟩ : ∃ q, Hid (s.may o = q) := ⟨_, Lib.hid rfl⟩
 rw [hq.out]
 rw [h1] at kk
 obtain ⟨hl, hl2⟩ := hR2.innN hbo hi
 have ka := hA2.a11
 have hfn := fn_not
 have hfz := fn_nil
 have hmb := ofD_bd o.b
 have hmo : i64ok (ofD o.b) := by unfold i64ok; omega
 have e : Hid (q = s.askVouch o (ofD o.b)) := Lib.hid (by rw [← hq.out]; unfold RS.may; rw [if_neg (by omega), if_neg (by rw [hi]; simp)]; unfold RS.ask; rw [if_neg (by omega), if_neg (by omega), if_neg (by omega), if_neg (by omega), if_neg (by omega), if_neg (by omega), if_neg (by omega), if_pos h1])
 replace hi := Lib.hid hi
 replace h1 := Lib.hid h1
 go_enter Tryd.func16, Tryd.ntmps16
 go_wp2_with (first | (rw [hw2.out]) | (first | (go_at_call 37; refine (of_A _ y s _).mono ?_; rintro e w' ⟨rfl, rfl⟩) | (go_at_call 38; refine (fresh_A _ y s _).mono ?_; rintro e w' ⟨rfl, rfl⟩; rw [hf.out]) | (go_at_call 122; refine (rules_A _ y s _).mono ?_; rintro e w' ⟨rfl, rfl⟩; rw [hr.out]) | fail))
 go_quiet (first | (go_at_call 37; exact Calls.quietE (of_A _ y s _)) | fail)
 go_wp2_with fail
 have hbn : Below w.heap.size w (w2.drewN nq) := belowN hb _
 have hRn := hR2.drewN nq
 have hUn := hU2.drewN nq
 have hRx : ∀ z : GrIn (w2.drewN nq), RollAt z.at_ y s := fun z => hRn.below z.gr
 have hUx : ∀ z : GrIn (w2.drewN nq), UI z.at_ gp o.gs.length o.gs := fun z => hUn.below z.gr
 have hOx : ∀ W, (∃ z : GrIn (w2.drewN nq), W = z.at_) → OpAt W w.heap.size o gp gc := fun W ⟨z, hz⟩ => by rw [hz]; exact (show OpAt (w2.drewN nq) w.heap.size o gp gc from hO).below z.gr hzw
 have kkx : ∀ z : GrIn (w2.drewN nq), z.at_.cell? ⟨w.heap.size, 2, none⟩ = some (.int .i64 11) := GrIn.cells kk
 have kbx : ∀ z : GrIn (w2.drewN nq), z.at_.cell? ⟨w.heap.size, 0, none⟩ = some (.int .i64 o.b) := GrIn.cells kb
 have kax : ∀ z : GrIn (w2.drewN nq), z.at_.cell? ⟨0, 11, none⟩ = some (.func (.func 131) #[] #[]) := GrIn.cells ka
 refine wp_region_gr (by kernel_rfl) (by kernel_rfl) ?_
 repeat (first
  | (go_big_quiet_want; refine quiet_whole _ rfl rfl hOx ?_; simp only [Act.put, List.setIfInBounds_toArray, List.set_cons_succ, List.set_cons_zero]; go_big_quiet_on)
  | go_big_quiet_step (first
   | (go_at_call 37; rename_i z; refine (of_any _ y s _ (hRx z) hbo).mono ?_; rintro e w' ⟨rfl, rfl⟩; exact ⟨rfl, ⟨_, rfl⟩⟩)
   | (go_at_call 131; rename_i z; refine (askVouch_any _ y s o gp gc _ k hk (hRx z) hs ho).mono ?_; rintro e w' ⟨rfl, hbz⟩; exact ⟨rfl, z.on hbz⟩)))
 refine wpQuiet_nil ?_
 intro w10 hw10'
 obtain ⟨⟨_, hw10⟩, rfl⟩ := hw10'
 go_wp2_with fail
 go_ret
 exact ⟨ret_int e.out.symm, hbn.trans (Below.mono hw10 hbn.size)⟩
set_option maxRecDepth 100000 in
set_option maxHeartbeats 4000000 in
theorem May_k12 (w : World) (y : Lay) (s : RS) (o : OpI) (gp : Option Addr) (gc : Nat) (i : Idn) (k : Nat) (_hk : k ≤ 1000) (hA : Asks w) (hR : RollAt w y s) (_hs : s.Ok k) (ho : o.Ok) (hU : UI w gp o.gs.length o.gs) (h1 : o.k = 12) (hi : s.inB o.b = true) :
  Calls Tryd.prog 16 #[.pointer (some ⟨y.r, 0, none⟩), .agg (opC o gp gc), .agg #[.int .i64 i.b, .int .i64 i.s, .int .u64 i.u]] w fun e w' => e = .returned (.int .i64 (s.may o)) ∧ Below w.heap.size w w' := by
 have hb1 := Below.lit w (.cells (opC o gp gc) 42)
 have hb2 := Below.lit (w.alloc (.cells (opC o gp gc) 42)) (.cells #[.int .i64 i.b, .int .i64 i.s, .int .u64 i.u] 34)
 have hO1 := OpAt.made w o gp gc
 have hO := hO1.below hb2 (by simp)
 obtain ⟨w2, hw2⟩ : ∃ w2, Hid ((w.alloc (.cells (opC o gp gc) 42)).alloc (.cells #[.int .i64 i.b, .int .i64 i.s, .int .u64 i.u] 34) = w2) := ⟨_, Lib.hid rfl⟩
 have hb : Below w.heap.size w w2 := by rw [← hw2.out]; exact hb1.trans (hb2.mono hb1.size)
 rw [hw2.out] at hO
 have hR2 := hR.below hb
 have hA2 := hA.below hb
 have hU2 := hU.below hb
 have hbo := i64_small ho.hb
 have kk := hO.ck
 have kb := hO.cb
 have c1 := hR2.c1
 have c2 := hR2.c2
 have hzw : w.heap.size < w2.heap.size := cell_lt kk
 clear hb1 hb2 hO1
 obtain ⟨q, hq⟩ : ∃ q, Hid (s.may o = q) := ⟨_, Lib.hid rfl⟩
 rw [hq.out]
 rw [h1] at kk
 obtain ⟨hl, hl2⟩ := hR2.innN hbo hi
 have ka := hA2.a12
 have hfn := fn_not
 have hfz := fn_nil
 have hmb := ofD_bd o.b
 have hmo : i64ok (ofD o.b) := by unfold i64ok; omega
 have e : Hid (q = s.askOwn o (ofD o.b)) := Lib.hid (by rw [← hq.out]; unfold RS.may; rw [if_neg (by omega), if_neg (by rw [hi]; simp)]; unfold RS.ask; rw [if_neg (by omega), if_neg (by omega), if_neg (by omega), if_neg (by omega), if_neg (by omega), if_neg (by omega), if_neg (by omega), if_neg (by omega), if_pos h1])
 replace hi := Lib.hid hi
 replace h1 := Lib.hid h1
 go_enter Tryd.func16, Tryd.ntmps16
 go_wp2_with (first | (rw [hw2.out]) | (first | (go_at_call 37; refine (of_A _ y s _).mono ?_; rintro e w' ⟨rfl, rfl⟩) | (go_at_call 38; refine (fresh_A _ y s _).mono ?_; rintro e w' ⟨rfl, rfl⟩; rw [hf.out]) | (go_at_call 122; refine (rules_A _ y s _).mono ?_; rintro e w' ⟨rfl, rfl⟩; rw [hr.out]) | fail))
 go_quiet (first | (go_at_call 37; exact Calls.quietE (of_A _ y s _)) | fail)
 go_wp2_with fail
 have hbn : Below w.heap.size w (w2.drewN nq) := belowN hb _
 have hRn := hR2.drewN nq
 have hUn := hU2.drewN nq
 have hRx : ∀ z : GrIn (w2.drewN nq), RollAt z.at_ y s := fun z => hRn.below z.gr
 have hUx : ∀ z : GrIn (w2.drewN nq), UI z.at_ gp o.gs.length o.gs := fun z => hUn.below z.gr
 have hOx : ∀ W, (∃ z : GrIn (w2.drewN nq), W = z.at_) → OpAt W w.heap.size o gp gc := fun W ⟨z, hz⟩ => by rw [hz]; exact (show OpAt (w2.drewN nq) w.heap.size o gp gc from hO).below z.gr hzw
 have kkx : ∀ z : GrIn (w2.drewN nq), z.at_.cell? ⟨w.heap.size, 2, none⟩ = some (.int .i64 12) := GrIn.cells kk
 have kbx : ∀ z : GrIn (w2.drewN nq), z.at_.cell? ⟨w.heap.size, 0, none⟩ = some (.int .i64 o.b) := GrIn.cells kb
 have kax : ∀ z : GrIn (w2.drewN nq), z.at_.cell? ⟨0, 12, none⟩ = some (.func (.func 130) #[] #[]) := GrIn.cells ka
 refine wp_region_gr (by kernel_rfl) (by kernel_rfl) ?_
 repeat (first
  | (go_big_quiet_want; refine quiet_whole _ rfl rfl hOx ?_; simp only [Act.put, List.setIfInBounds_toArray, List.set_cons_succ, List.set_cons_zero]; go_big_quiet_on)
  | go_big_quiet_step (first
   | (go_at_call 37; rename_i z; refine (of_any _ y s _ (hRx z) hbo).mono ?_; rintro e w' ⟨rfl, rfl⟩; exact ⟨rfl, ⟨_, rfl⟩⟩)
   | (go_at_call 130; rename_i z; refine (own_any _ y s o gp gc _ (hRx z) hmo).mono ?_; rintro e w' ⟨rfl, hbz⟩; exact ⟨rfl, z.on hbz⟩)))
 refine wpQuiet_nil ?_
 intro w10 hw10'
 obtain ⟨⟨_, hw10⟩, rfl⟩ := hw10'
 go_wp2_with fail
 go_ret
 exact ⟨ret_int e.out.symm, hbn.trans (Below.mono hw10 hbn.size)⟩
set_option maxRecDepth 100000 in
set_option maxHeartbeats 4000000 in
theorem May_k13 (w : World) (y : Lay) (s : RS) (o : OpI) (gp : Option Addr) (gc : Nat) (i : Idn) (k : Nat) (hk : k ≤ 1000) (hA : Asks w) (hR : RollAt w y s) (hs : s.Ok k) (ho : o.Ok) (hU : UI w gp o.gs.length o.gs) (h1 : o.k = 13) (hi : s.inB o.b = true) :
  Calls Tryd.prog 16 #[.pointer (some ⟨y.r, 0, none⟩), .agg (opC o gp gc), .agg #[.int .i64 i.b, .int .i64 i.s, .int .u64 i.u]] w fun e w' => e = .returned (.int .i64 (s.may o)) ∧ Below w.heap.size w w' := by
 have hb1 := Below.lit w (.cells (opC o gp gc) 42)
 have hb2 := Below.lit (w.alloc (.cells (opC o gp gc) 42)) (.cells #[.int .i64 i.b, .int .i64 i.s, .int .u64 i.u] 34)
 have hO1 := OpAt.made w o gp gc
 have hO := hO1.below hb2 (by simp)
 obtain ⟨w2, hw2⟩ : ∃ w2, Hid ((w.alloc (.cells (opC o gp gc) 42)).alloc (.cells #[.int .i64 i.b, .int .i64 i.s, .int .u64 i.u] 34) = w2) := ⟨_, Lib.hid rfl⟩
 have hb : Below w.heap.size w w2 := by rw [← hw2.out]; exact hb1.trans (hb2.mono hb1.size)
 rw [hw2.out] at hO
 have hR2 := hR.below hb
 have hA2 := hA.below hb
 have hU2 := hU.below hb
 have hbo := i64_small ho.hb
 have kk := hO.ck
 have kb := hO.cb
 have c1 := hR2.c1
 have c2 := hR2.c2
 have hzw : w.heap.size < w2.heap.size := cell_lt kk
 clear hb1 hb2 hO1
 obtain ⟨q, hq⟩ : ∃ q, Hid (s.may o = q) := ⟨_, Lib.hid rfl⟩
 rw [hq.out]
 rw [h1] at kk
 obtain ⟨hl, hl2⟩ := hR2.innN hbo hi
 have ka := hA2.a13
 have hfn := fn_not
 have hfz := fn_nil
 have hmb := ofD_bd o.b
 have hmo : i64ok (ofD o.b) := by unfold i64ok; omega
 have e : Hid (q = s.askReplace o (ofD o.b)) := Lib.hid (by rw [← hq.out]; unfold RS.may; rw [if_neg (by omega), if_neg (by rw [hi]; simp)]; unfold RS.ask; rw [if_neg (by omega), if_neg (by omega), if_neg (by omega), if_neg (by omega), if_neg (by omega), if_neg (by omega), if_neg (by omega), if_neg (by omega), if_neg (by omega), if_pos h1])
 replace hi := Lib.hid hi
 replace h1 := Lib.hid h1
 go_enter Tryd.func16, Tryd.ntmps16
 go_wp2_with (first | (rw [hw2.out]) | (first | (go_at_call 37; refine (of_A _ y s _).mono ?_; rintro e w' ⟨rfl, rfl⟩) | (go_at_call 38; refine (fresh_A _ y s _).mono ?_; rintro e w' ⟨rfl, rfl⟩; rw [hf.out]) | (go_at_call 122; refine (rules_A _ y s _).mono ?_; rintro e w' ⟨rfl, rfl⟩; rw [hr.out]) | fail))
 go_quiet (first | (go_at_call 37; exact Calls.quietE (of_A _ y s _)) | fail)
 go_wp2_with fail
 have hbn : Below w.heap.size w (w2.drewN nq) := belowN hb _
 have hRn := hR2.drewN nq
 have hUn := hU2.drewN nq
 have hRx : ∀ z : GrIn (w2.drewN nq), RollAt z.at_ y s := fun z => hRn.below z.gr
 have hUx : ∀ z : GrIn (w2.drewN nq), UI z.at_ gp o.gs.length o.gs := fun z => hUn.below z.gr
 have hOx : ∀ W, (∃ z : GrIn (w2.drewN nq), W = z.at_) → OpAt W w.heap.size o gp gc := fun W ⟨z, hz⟩ => by rw [hz]; exact (show OpAt (w2.drewN nq) w.heap.size o gp gc from hO).below z.gr hzw
 have kkx : ∀ z : GrIn (w2.drewN nq), z.at_.cell? ⟨w.heap.size, 2, none⟩ = some (.int .i64 13) := GrIn.cells kk
 have kbx : ∀ z : GrIn (w2.drewN nq), z.at_.cell? ⟨w.heap.size, 0, none⟩ = some (.int .i64 o.b) := GrIn.cells kb
 have kax : ∀ z : GrIn (w2.drewN nq), z.at_.cell? ⟨0, 13, none⟩ = some (.func (.func 132) #[] #[]) := GrIn.cells ka
 refine wp_region_gr (by kernel_rfl) (by kernel_rfl) ?_
 repeat (first
  | (go_big_quiet_want; refine quiet_whole _ rfl rfl hOx ?_; simp only [Act.put, List.setIfInBounds_toArray, List.set_cons_succ, List.set_cons_zero]; go_big_quiet_on)
  | go_big_quiet_step (first
   | (go_at_call 37; rename_i z; refine (of_any _ y s _ (hRx z) hbo).mono ?_; rintro e w' ⟨rfl, rfl⟩; exact ⟨rfl, ⟨_, rfl⟩⟩)
   | (go_at_call 132; rename_i z; refine (askReplace_any _ y s o gp gc _ k hk (hRx z) hs ho).mono ?_; rintro e w' ⟨rfl, hbz⟩; exact ⟨rfl, z.on hbz⟩)))
 refine wpQuiet_nil ?_
 intro w10 hw10'
 obtain ⟨⟨_, hw10⟩, rfl⟩ := hw10'
 go_wp2_with fail
 go_ret
 exact ⟨ret_int e.out.symm, hbn.trans (Below.mono hw10 hbn.size)⟩
theorem May_any (w : World) (y : Lay) (s : RS) (o : OpI) (gp : Option Addr) (gc : Nat) (i : Idn) (k : Nat) (hk : k ≤ 1000) (hA : Asks w) (hR : RollAt w y s) (hs : s.Ok k) (ho : o.Ok) (hU : UI w gp o.gs.length o.gs) :
  Calls Tryd.prog 16 #[.pointer (some ⟨y.r, 0, none⟩), .agg (opC o gp gc), .agg #[.int .i64 i.b, .int .i64 i.s, .int .u64 i.u]] w fun e w' => e = .returned (.int .i64 (s.may o)) ∧ Below w.heap.size w w' := by
 by_cases h1 : o.k = 1
 ·exact May_create w y s o gp gc i k hk hA hR hs ho hU h1
 cases hi : s.inB o.b with
 | false => exact May_gone w y s o gp gc i k hk hA hR hs ho hU h1 hi
 | true =>
  by_cases h14 : 14 ≤ o.k
  ·exact May_high w y s o gp gc i k hk hA hR hs ho hU h14 hi
  by_cases h : o.k = 0
  ·exact May_none0 w y s o gp gc i k hk hA hR hs ho hU h hi
  by_cases h : o.k = 2
  ·exact May_k2 w y s o gp gc i k hk hA hR hs ho hU h hi
  by_cases h : o.k = 3
  ·exact May_k3 w y s o gp gc i k hk hA hR hs ho hU h hi
  by_cases h : o.k = 4
  ·exact May_none4 w y s o gp gc i k hk hA hR hs ho hU h hi
  by_cases h : o.k = 5
  ·exact May_k5 w y s o gp gc i k hk hA hR hs ho hU h hi
  by_cases h : o.k = 6
  ·exact May_k6 w y s o gp gc i k hk hA hR hs ho hU h hi
  by_cases h : o.k = 7
  ·exact May_none7 w y s o gp gc i k hk hA hR hs ho hU h hi
  by_cases h : o.k = 8
  ·exact May_k8 w y s o gp gc i k hk hA hR hs ho hU h hi
  by_cases h : o.k = 9
  ·exact May_k9 w y s o gp gc i k hk hA hR hs ho hU h hi
  by_cases h : o.k = 10
  ·exact May_k10 w y s o gp gc i k hk hA hR hs ho hU h hi
  by_cases h : o.k = 11
  ·exact May_k11 w y s o gp gc i k hk hA hR hs ho hU h hi
  by_cases h : o.k = 12
  ·exact May_k12 w y s o gp gc i k hk hA hR hs ho hU h hi
  by_cases h : o.k = 13
  ·exact May_k13 w y s o gp gc i k hk hA hR hs ho hU h hi
  have := ho.hk.1
  omega
end Go.Proofs.YtkolilbebkkpdaaDoor

