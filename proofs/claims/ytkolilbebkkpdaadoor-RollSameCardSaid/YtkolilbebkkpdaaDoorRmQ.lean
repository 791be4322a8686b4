/-
  Rolls; plain Lean: nobody but an Admin changes others' roles, or lets others come in, or go.
  RollSame; plain Lean: rolls compared turned round; who is a member has a device in; operations of which some are left out.
  The document's roll behind some operations: the walk of Made.
-/
import Derived.Test.YtkolilbebkkpdaaDoorRmG
import Derived.Test.YtkolilbebkkpdaaDoorRmP
import Derived.Test.YtkolilbebkkpdaaDoorRmO
import Derived.Test.YtkolilbebkkpdaaDoorRmH
namespace Go.Proofs.YtkolilbebkkpdaaDoor

/-- Who has a device in is a member. -/
def RS.J (s : RS) : Prop := ∀ d ∈ s.ins, (s.memb (ofD d)).isSome = true
/-- What a step that touches but one member's devices may turn. -/
structure Mild (s s' : RS) (m : Int) : Prop where
 ins : ∀ d, s.inB d ≠ s'.inB d → ofD d = m
 role : ∀ n, n ≠ m → s'.role n = s.role n
 own : s'.role m = s.role m ∨ s'.role m = 0
theorem Mild.refl (s : RS) (m : Int) : Mild s s m := ⟨fun _ h => absurd rfl h, fun _ _ => rfl, .inl rfl⟩
theorem Mild.trans {s t u : RS} {m : Int} (h : Mild s t m) (k : Mild t u m) : Mild s u m := by
 refine ⟨fun d hd => ?_, fun n hn => (k.role n hn).trans (h.role n hn), ?_⟩
 ·by_cases e : s.inB d = t.inB d
  ·exact k.ins d (by rw [← e]; exact hd)
  ·exact h.ins d e
 ·rcases k.own with e | e
  ·rw [e]; exact h.own
  ·exact .inr e
end Go.Proofs.YtkolilbebkkpdaaDoor

namespace Go.Proofs.YtkolilbebkkpdaaDoor

theorem sameG_symm {x y : Option Gd} (hx : ∀ g, x = some g → (g.vo.map Prod.fst).Nodup) (hy : ∀ g, y = some g → (g.vo.map Prod.fst).Nodup) (h : sameG x y = true) : sameG y x = true := by
 rcases sameG_iff.1 h with ⟨e1, e2⟩ | ⟨g, h', e1, e2, r1, r2, r3, r4, r5, r6, r7⟩
 ·exact sameG_iff.2 (.inl ⟨e2, e1⟩)
 ·exact sameG_iff.2 (.inr ⟨h', g, e2, e1, r1.symm, r2.symm, r3.symm, r4.symm, (eqV_perm (hy _ e2) (hx _ e1)).2 ((eqV_perm (hx _ e1) (hy _ e2)).1 r5).symm, r6.symm, r7.symm⟩)
theorem same_symm1 {s t : RS} {k k' : Nat} (hs : s.Ok k) (ht : t.Ok k') (h : s.same t = true) : t.same s = true := by
 obtain ⟨hsi, _, _⟩ := List.nodup_append.1 hs.nd
 obtain ⟨hti, _, _⟩ := List.nodup_append.1 ht.nd
 unfold RS.same at h ⊢
 simp only [Bool.and_eq_true, decide_eq_true_eq, eqI_perm hsi hti, eqI_perm hs.nd ht.nd, eqI_perm hti hsi, eqI_perm ht.nd hs.nd] at h ⊢
 obtain ⟨⟨⟨h1, h2⟩, h3⟩, h4⟩ := h
 refine ⟨⟨⟨h1.symm, h2.symm⟩, h3.symm⟩, ?_⟩
 unfold sameL at h4 ⊢
 rw [Bool.and_eq_true, decide_eq_true_eq, List.all_eq_true] at h4 ⊢
 obtain ⟨h5, h6⟩ := h4
 have hat : ∀ p ∈ s.ms, ∃ m, lk t.ms p.1 = some m ∧ sameM p.2 m = true := fun p hp => by
  have := h6 p hp
  cases e : lk t.ms p.1 with
  | none => rw [e] at this; cases this
  | some m => rw [e] at this; exact ⟨m, rfl, this⟩
 have hkeys : (s.ms.map Prod.fst).Perm (t.ms.map Prod.fst) := perm_sub hs.mn ht.mn (by rw [List.length_map, List.length_map, h5]) fun x hx => by
  obtain ⟨p, hp, rfl⟩ := List.mem_map.1 hx
  obtain ⟨m, e, _⟩ := hat p hp
  exact List.mem_map.2 ⟨_, lk_mem e, rfl⟩
 refine ⟨h5.symm, fun q hq => ?_⟩
 obtain ⟨p, hp, e4⟩ := List.mem_map.1 (hkeys.mem_iff.2 (List.mem_map.2 ⟨q, hq, rfl⟩))
 obtain ⟨m, e, hm⟩ := hat p hp
 have hmq : m = q.2 := by
  have := lk_of_mem (a := q.1) (b := q.2) ht.mn hq
  rw [e4, this] at e
  injection e with e
  exact e.symm
 have hl : lk s.ms q.1 = some p.2 := by rw [← e4]; exact lk_of_mem hs.mn hp
 rw [hl]
 show sameM q.2 p.2 = true
 rw [← hmq]
 unfold sameM at hm ⊢
 rw [Bool.and_eq_true, decide_eq_true_eq] at hm ⊢
 exact ⟨hm.1.symm, sameG_symm (fun g e1 => (hs.gd p hp g e1).vn) (fun g e1 => (ht.gd q hq g (by rw [← hmq]; exact e1)).vn) hm.2⟩
theorem same_symm {s t : RS} {k k' : Nat} (hs : s.Ok k) (ht : t.Ok k') : t.same s = s.same t := by
 rw [Bool.eq_iff_iff]
 exact ⟨same_symm1 ht hs, same_symm1 hs ht⟩
theorem same_refl {s : RS} {k : Nat} (hs : s.Ok k) : s.same s = true := by
 obtain ⟨hsi, _, _⟩ := List.nodup_append.1 hs.nd
 unfold RS.same
 simp only [Bool.and_eq_true, decide_eq_true_eq, eqI_perm hsi hsi, eqI_perm hs.nd hs.nd]
 refine ⟨⟨⟨List.Perm.refl _, List.Perm.refl _⟩, trivial⟩, ?_⟩
 unfold sameL
 rw [Bool.and_eq_true, decide_eq_true_eq, List.all_eq_true]
 refine ⟨rfl, fun p hp => ?_⟩
 rw [lk_of_mem (a := p.1) (b := p.2) hs.mn hp]
 show sameM p.2 p.2 = true
 unfold sameM
 rw [Bool.and_eq_true, decide_eq_true_eq]
 refine ⟨rfl, sameG_iff.2 ?_⟩
 cases e : p.2.g with
 | none => exact .inl ⟨rfl, rfl⟩
 | some g =>
  have hv := (hs.gd p hp g e).vn
  exact .inr ⟨g, g, rfl, rfl, rfl, rfl, rfl, rfl, (eqV_perm hv hv).2 (List.Perm.refl _), rfl, rfl⟩
/-- Who is a member has a device in. -/
def RS.K (s : RS) : Prop := ∀ p ∈ s.ms, ∃ d ∈ s.ins, ofD d = p.1
theorem K_comes {s : RS} (h : s.K) (d r : Int) : (s.comes d r).K := by
 unfold RS.comes
 split
 ·intro p hp
  have hp' : p ∈ (if (s.memb (ofD d)).isSome = true then s.ms else s.ms ++ [(ofD d, ⟨r, none⟩)]) := hp
  have : p ∈ s.ms ∨ p = (ofD d, ⟨r, none⟩) := by
   split at hp'
   ·exact .inl hp'
   ·rcases List.mem_append.1 hp' with h1 | h1
    ·exact .inl h1
    ·exact .inr (List.mem_singleton.1 h1)
  rcases this with h1 | rfl
  ·obtain ⟨e, he, h2⟩ := h p h1
   exact ⟨e, List.mem_append.2 (.inl he), h2⟩
  ·exact ⟨d, List.mem_append.2 (.inr (List.mem_singleton.2 rfl)), rfl⟩
 ·exact h
theorem K_goes {s : RS} (h : s.K) (d : Int) : (s.goes d).K := by
 unfold RS.goes
 split
 ·intro p hp
  have hp' : p ∈ (if ∃ e ∈ s.ins, e ≠ d ∧ ofD e = ofD d then s.ms else dropL s.ms (ofD d)) := hp
  show ∃ e ∈ s.ins.filter (fun e => decide (e ≠ d)), ofD e = p.1
  split at hp'
  ·rename_i hx
   obtain ⟨e, he, h2⟩ := h p hp'
   by_cases hed : e = d
   ·obtain ⟨e', he', h3, h4⟩ := hx
    exact ⟨e', List.mem_filter.2 ⟨he', decide_eq_true h3⟩, by rw [h4, ← hed, h2]⟩
   ·exact ⟨e, List.mem_filter.2 ⟨he, decide_eq_true hed⟩, h2⟩
  ·obtain ⟨h1, h2⟩ := mem_dropL.1 hp'
   obtain ⟨e, he, h3⟩ := h p h1
   exact ⟨e, List.mem_filter.2 ⟨he, decide_eq_true fun hed => h2 (by rw [← h3, hed])⟩, h3⟩
 ·exact h
theorem K_goAll (m : Int) : ∀ (l : List Int) {s : RS}, s.K → (s.goAll m l).K := by
 intro l
 induction l with
 | nil => intro s h; exact h
 | cons d l ih =>
  intro s h
  show RS.K (RS.goAll (if ofD d = m then s.goes d else s) m l)
  refine ih ?_
  split
  ·exact K_goes h d
  ·exact h
theorem K_setM {s : RS} (h : s.K) {n : Int} {m0 m : Mb} (hm : s.memb n = some m0) : (s.setM n m).K := by
 intro p hp
 rcases mem_setM hp with rfl | ⟨hp, _⟩
 ·exact h (n, m0) (lk_mem hm)
 ·exact h p hp
theorem K_act {s : RS} (h : s.K) (o : OpI) (i : Idn) : (s.act o i).K := by
 unfold RS.act
 split
 ·unfold RS.doCreate
  split
  ·exact K_comes h o.b 3
  ·exact h
 split
 ·exact K_comes h _ _
 split
 ·split
  ·exact K_goes h _
  ·exact K_goAll _ _ h
 split
 ·unfold RS.doPromote
  split
  ·rename_i m hm; exact K_setM h hm
  ·exact h
 split
 ·unfold RS.doGuard
  split
  ·rename_i m hm; exact K_setM h hm
  ·exact h
 split
 ·unfold RS.doVouch
  split
  ·split
   ·rename_i hm; exact K_setM h hm
   ·exact h
  ·exact h
 split
 ·unfold RS.doObject
  split
  ·rename_i hm
   split
   ·exact K_setM h hm
   ·exact h
  ·exact h
 split
 ·unfold RS.doReplace
  split
  ·exact K_goes (K_comes h _ _) _
  ·exact h
 ·exact h
theorem K_new : RS.K RS.new := fun p hp => absurd (show p ∈ ([] : List (Int × Mb)) from hp) (by simp)
theorem K_made (l : List OpI) (all : Bool) : ∀ i, (madeN l all i).K := by
 intro i
 induction i with
 | zero => exact K_new
 | succ i ih =>
  unfold madeN
  split
  ·exact K_act ih _ _
  ·exact ih
/-- All devices of a member go: it is none any more. -/
theorem goAll_none {s : RS} {k : Nat} (hs : s.Ok k) (hK : s.K) (m : Int) : (s.goAll m (sortI s.ins)).memb m = none ∧ (s.goAll m (sortI s.ins)).ins.length ≤ s.ins.length := by
 obtain ⟨h1, _, h3, _⟩ := goAll_row hs m
 have hni : s.ins.Nodup := (List.nodup_append.1 hs.nd).1
 have he := goL_eq m (s.ins.filter fun d => decide (ofD d = m)) s (hni.filter _) (fun d hd => by obtain ⟨h1, h2⟩ := List.mem_filter.1 hd; exact ⟨h1, of_decide_eq_true h2⟩)
 rw [he] at h1 h3
 refine ⟨?_, by rw [← h1]; exact List.length_filter_le ..⟩
 unfold RS.memb
 rw [← h3]
 show lk (if _ then s.ms else dropL s.ms m) m = none
 by_cases hn : (s.ins.filter fun d => decide (ofD d = m)) = []
 ·rw [if_pos (.inl hn)]
  refine lk_none.2 fun p hp e => ?_
  obtain ⟨d, hd, h5⟩ := hK p hp
  have : d ∈ s.ins.filter fun d => decide (ofD d = m) := List.mem_filter.2 ⟨hd, decide_eq_true (h5.trans e)⟩
  rw [hn] at this
  cases this
 ·rw [if_neg]
  ·rw [lk_dropL, if_pos rfl]
  ·rintro (h | ⟨e, h5, h6, h7⟩)
   ·exact hn h
   ·exact h6 (List.mem_filter.2 ⟨h5, decide_eq_true h7⟩)
/-- A roll behind some operations of which some are left out. -/
def outN (l : List OpI) (out : List Int) (all : Bool) : Nat → RS
 | 0 => RS.new
 | i + 1 => if (i : Int) ∉ out ∧ (all = true ∨ (outN l out all i).may (l.getD i opZ) = 0) then (outN l out all i).act (l.getD i opZ) ((l.getD i opZ).name i) else outN l out all i
theorem outN_ok {l : List OpI} (hl : ∀ o ∈ l, o.Good) (out : List Int) (all : Bool) : ∀ i, i ≤ l.length → (outN l out all i).Ok i := by
 intro i
 induction i with
 | zero => intro _; exact new_ok 0
 | succ i ih =>
  intro hi
  have hs := ih (by omega)
  have hi' : i < l.length := hi
  unfold outN
  split
  ·refine act_good hs (hl _ ?_)
   rw [List.getD_eq_getElem?_getD, List.getElem?_eq_getElem hi']
   exact List.getElem_mem hi'
  ·exact hs.mono (Nat.le_succ i)
end Go.Proofs.YtkolilbebkkpdaaDoor

namespace Go.Proofs.YtkolilbebkkpdaaDoor
open Go.RowKit Go.Maps Go.BigFrame
attribute [local go_sem] in_gr

/-- Where Made stands. -/
structure MkSt (w wr : World) (b5 bz : Nat) (S : RS) (a : RfV) (L : List ME) (vs : List VI) : Prop where
 box : RfBox wr b5 a S vs.length
 z : ZBox wr bz
 rf : RfAt wr a S L vs
 vo : VsOk S vs
 ri : RfIn (fun b => b ≠ b5 ∧ b ≠ bz) a L
 be : Below w.heap.size w wr
theorem MkSt.below {w wr W : World} {b5 bz : Nat} {S : RS} {a : RfV} {L : List ME} {vs : List VI} (h : MkSt w wr b5 bz S a L vs) (hb : Below wr.heap.size wr W) : MkSt w W b5 bz S a L vs :=
 ⟨h.box.below hb, h.z.below hb, h.rf.below hb, h.vo, h.ri, h.be.trans (hb.mono h.be.size)⟩
set_option maxRecDepth 100000 in
set_option maxHeartbeats 16000000 in
theorem MadeR_any (w : World) (base : Nat) (q : Option Addr) (L : List (OpI × Option Addr × Nat)) (d : Nat) (hG : OpsG w base (.slice q L.length d) L) (hgood : ∀ x ∈ L, x.1.Good) (hl : L.length ≤ 900) (all : Bool) :
  Calls Tryd.prog 31 #[.slice q L.length d, .bool all] w fun e w' => ∃ a' L' vs', e = .returned (.agg (rfC a' (madeN (L.map Prod.fst) all L.length) vs'.length)) ∧ RfAt w' a' (madeN (L.map Prod.fst) all L.length) L' vs' ∧ VsOk (madeN (L.map Prod.fst) all L.length) vs' ∧ Below w.heap.size w w' := by
 have hbz := Below.lit w (.cells rZ 60)
 obtain ⟨wz, hwz, hZ⟩ := nameW (p := fun W => ZBox W w.heap.size) (ZBox.made w)
 rw [hwz.out] at hbz
 obtain ⟨bz, hbzn⟩ : ∃ b, Hid (w.heap.size = b) := ⟨_, Lib.hid rfl⟩
 have hbz0 : w.heap.size ≤ bz := by rw [hbzn.out]; exact Nat.le_refl _
 rw [hbzn.out] at hZ
 go_enter Tryd.func31, Tryd.ntmps31
 go_upto_region 1 with (first | (rw [hwz.out]) | (refine wpL_allocT 60 rZ rfl rfl (zero_R _) ?_; simp only [Act.put, List.setIfInBounds_toArray, List.set_cons_succ, List.set_cons_zero]) | fail)
 rw [hbzn.out]
 go_wp2_with fail
 refine (Cards_any _).mono ?_
 rintro e w3 ⟨v, rfl, hown, hb3⟩
 obtain ⟨pc, cc, rfl, hcc, hRc, hfc, _, hob⟩ := hown.u
 have hpl : LtP w3.heap.size pc := fun q e => (hown.lt (hob q e)).2
 go_wp2_with fail
 refine (NewR_any w3 pc cc).mono ?_
 rintro e w4 ⟨rfl, hb4⟩
 have hb34 := hb3.trans (hb4.mono hb3.size)
 have hB4 := hbz.trans (hb34.mono hbz.size)
 have hZ4 := hZ.below hb34
 have hR4 := newRf (hRc.below hb4) cc (fun q e => Nat.lt_of_lt_of_le (hpl q e) hb4.size)
 have hb5 := Below.lit w4 (.cells (rfC (newV pc cc) RS.new 0) 60)
 obtain ⟨w5, hw5, hbox5⟩ := nameW (p := fun W => RfBox W w4.heap.size (newV pc cc) RS.new 0) (RfBox.made w4 _ _ _)
 rw [hw5.out] at hb5
 have hcb : ∀ a, pc = some a → a.block ≠ w4.heap.size := fun a ha => by have := hpl a ha; have := hb4.size; omega
 have hcz : ∀ a, pc = some a → a.block ≠ bz := fun a ha => by have := hfc a ha; have := blk_lt hZ; omega
 have hb50 : w.heap.size ≤ w4.heap.size := hB4.size
 have hz5 : bz ≠ w4.heap.size := by have := blk_lt hZ4; omega
 obtain ⟨b5, hb5n⟩ : ∃ b, Hid (w4.heap.size = b) := ⟨_, Lib.hid rfl⟩
 rw [hb5n.out] at hbox5 hcb hb50 hz5
 have hM0 : MkSt w w5 b5 bz RS.new (newV pc cc) [] [] := ⟨hbox5, hZ4.below hb5, hR4.below hb5, newVs, newIn cc (fun q e => ⟨hcb q e, hcz q e⟩), hB4.trans (hb5.mono hB4.size)⟩
 go_upto_region 2 with (first
  | (rw [hw5.out])
  | (refine wpL_allocT 60 rZ rfl rfl (zero_R _) ?_; simp only [Act.put, List.setIfInBounds_toArray, List.set_cons_succ, List.set_cons_zero])
  | (refine wpL_storeT 60 _ (rfC (newV pc cc) RS.new 0) rfl _ _ rfl (by first | rfl | (simp only [World.size_alloc]; rfl)) rfl (rfC_info _ _ _) rfl (rfC_one _ _ _) ?_; try simp only [Act.put])
  | fail)
 rw [hb5n.out]
 clear hown hRc hcc hfc hob hpl hb3 hb4 hb34 hB4 hZ4 hR4 hb5 hbox5 hbz hZ
 replace hM0 := Lib.hid hM0
 replace hcb := Lib.hid hcb
 replace hgood := Lib.hid hgood
 have hown := hG.own
 obtain ⟨q', d', hv, _, hRd, _, _, _⟩ := hown.u
 injection hv with hv1 _ hv2
 subst hv1; subst hv2
 have hug : ∀ x ∈ L, UI w x.2.1 x.1.gs.length x.1.gs := fun x hx => (hG.gs x hx).1
 have hgl : ∀ x ∈ L, LtP w.heap.size x.2.1 := fun x hx q e => ((hG.gs x hx).2 q e).2.1
 replace hRd := Lib.hid hRd
 replace hug := Lib.hid hug
 replace hgl := Lib.hid hgl
 clear hown hG
 go_wp2_with fail
 go_loopw [6] (fun i wr => ∃ (j : Nat) (a' : RfV) (L' : List ME) (vs' : List VI), j ≤ L.length ∧ i = .int .i64 j ∧ Hid (MkSt w wr b5 bz (madeN (L.map Prod.fst) all j) a' L' vs')) (fun i _ => L.length - (intOf i).toNat)
 case atStart => exact ⟨0, newV pc cc, [], [], Nat.zero_le _, rfl, hM0⟩
 case round =>
  clear hM0
  obtain ⟨j, a, Lr, vs, hj, rfl, hM⟩ := hrel
  by_cases hlt : j < L.length
  ·obtain ⟨x, hx⟩ : ∃ x, Hid (L[j] = x) := ⟨_, Lib.hid rfl⟩
   have hxm : x ∈ L := hx.out ▸ List.getElem_mem hlt
   obtain ⟨bq, oq, hqe, hbql, hcq⟩ := (hRd.out.below hM.out.be).op hlt
   subst hqe
   rw [hx.out] at hcq
   have hxg := hgood.out x hxm
   have hxu := hug.out x hxm
   have hxl := hgl.out x hxm
   have hxd : (L.map Prod.fst).getD j opZ = x.1 := by
    rw [List.getD_eq_getElem?_getD, List.getElem?_map, List.getElem?_eq_getElem hlt, hx.out]; rfl
   have hOk := madeN_ok (l := L.map Prod.fst) (by intro o ho; obtain ⟨z, hz, rfl⟩ := List.mem_map.1 ho; exact hgood.out z hz) all j (by rw [List.length_map]; exact hj)
   have hst : madeN (L.map Prod.fst) all (j + 1) = if all = true ∨ (madeN (L.map Prod.fst) all j).may x.1 = 0 then (madeN (L.map Prod.fst) all j).act x.1 (x.1.name j) else madeN (L.map Prod.fst) all j := by
    rw [← hxd]; rfl
   obtain ⟨s, hs⟩ : ∃ s, Hid (madeN (L.map Prod.fst) all j = s) := ⟨_, Lib.hid rfl⟩
   rw [hs.out] at hst hOk hM
   obtain ⟨o, gp, gc⟩ := x
   replace hcq : ∀ i u, (opC o gp gc)[i]? = some u → wr.cell? ⟨bq, oq + j * 27 + i, none⟩ = some u := hcq
   replace hxg : o.Good := hxg
   replace hxu : UI w gp o.gs.length o.gs := hxu
   replace hxl : LtP w.heap.size gp := hxl
   replace hst : madeN (L.map Prod.fst) all (j + 1) = if all = true ∨ s.may o = 0 then s.act o (o.name j) else s := hst
   have hix1 : (0 : Int) ≤ (j : Int) := by omega
   have hix2 : (j : Int) < (L.length : Int) := by omega
   obtain ⟨mv, hmv⟩ : ∃ mv, Hid (s.may o = mv) := ⟨_, Lib.hid rfl⟩
   rw [hmv.out] at hst
   replace hcq := Lib.hid hcq
   replace hst := Lib.hid hst
   replace hOk := Lib.hid hOk
   replace hxu := Lib.hid hxu
   replace hxg := Lib.hid hxg
   replace hxl := Lib.hid hxl
   clear hxd hxm
   go_upto_region 5 with fail
   go_cut [30] from 15 to 29 (fun v T => v = .bool (all || (mv == 0)) ∧ Below wr.heap.size wr T)
   case first =>
    obtain ⟨wa, hwa⟩ : ∃ wa, Hid (wr.drew = wa) := ⟨_, Lib.hid rfl⟩
    have hba : Below wr.heap.size wr wa := by rw [← hwa.out]; exact (Below.refl _ _).drew
    have hMa := Lib.hid (hM.out.below hba)
    have hcd : ∀ i u, (opC o gp gc)[i]? = some u → wa.cell? ⟨bq, oq + j * 27 + i, none⟩ = some u := fun i u hu => (hba.cell (p := ⟨bq, oq + j * 27 + i, none⟩) (cell_lt (hcq.out i u hu))).trans (hcq.out i u hu)
    replace hcd := Lib.hid hcd
    have hb0 : Below wa.heap.size wa wa := Below.refl _ _
    have hboxa := Lib.hid hMa.out.box
    refine wp_region_D (D := fun T => Below wa.heap.size wa T) (by kernel_rfl) ?_
    rw [hwa.out]
    change wpAnyD _ _ _ _ _ 16 _ _ _
    apply tkD 0 hb0 rfl
    ·intro T hT
     go_simp
     try rfl
    try go_frame
    apply tkD 1 hb0 rfl
    ·intro T hT
     go_simp
     try rfl
    try go_frame
    cases all with
    | true =>
     apply noD 2 hb0 rfl
     try go_frame
     apply noD 3 hb0 rfl
     try go_frame
     apply noD 4 hb0 rfl
     try go_frame
     apply noD 5 hb0 rfl
     try go_frame
     apply noD 6 hb0 rfl
     try go_frame
     apply noD 7 hb0 rfl
     try go_frame
     apply noD 8 hb0 rfl
     try go_frame
     apply noD 9 hb0 rfl
     try go_frame
     apply noD 10 hb0 rfl
     try go_frame
     apply noD 11 hb0 rfl
     try go_frame
     apply noD 12 hb0 rfl
     try go_frame
     apply noD 13 hb0 rfl
     try go_frame
     apply noD 14 hb0 rfl
     try go_frame
     apply tkD 15 hb0 rfl
     ·intro T hT
      go_simp
      try rfl
     try go_frame
     refine wpAnyD_done (by kernel_rfl) ?_ _
     go_wp2_with fail
     go_meet
     exact ⟨rfl, hba⟩
    | false =>
     apply tkD 2 hb0 rfl
     ·intro T hT
      exact run_loadR (hboxa.out.below hT) rfl rfl
     try go_frame
     apply tkD 3 hb0 rfl
     ·intro T hT
      go_simp
      try rfl
     try go_frame
     apply tkD 4 hb0 rfl
     ·intro T hT
      go_simp
      try rfl
     try go_frame
     apply tkD 5 hb0 rfl
     ·intro T hT
      go_simp
      try rfl
     try go_frame
     apply tkD 6 hb0 rfl
     ·intro T hT
      exact run_loadO (n := o) (gp := gp) (gc := gc) (b := bq) (k := oq + j * 27) (fun i u hu => (hT.cell (p := ⟨bq, oq + j * 27 + i, none⟩) (cell_lt (hcd.out i u hu))).trans (hcd.out i u hu)) rfl rfl
     try go_frame
     apply tkD 7 hb0 rfl
     ·intro T hT
      go_simp
      try rfl
     try go_frame
     apply tkD 8 hb0 rfl
     ·intro T hT
      go_simp
      try rfl
     try go_frame
     apply tkD 9 hb0 rfl
     ·intro T hT
      go_simp
      try rfl
     try go_frame
     apply tkD 10 hb0 rfl
     ·intro T hT
      exact run_loadO (n := o) (gp := gp) (gc := gc) (b := bq) (k := oq + j * 27) (fun i u hu => (hT.cell (p := ⟨bq, oq + j * 27 + i, none⟩) (cell_lt (hcd.out i u hu))).trans (hcd.out i u hu)) rfl rfl
     try go_frame
     apply tkD 11 hb0 rfl
     ·intro T hT
      go_simp
      try rfl
     try go_frame
     refine oneD 12 (by kernel_rfl) rfl (by kernel_rfl) (fun K hK => ?_)
     go_simp
     refine (Name_any o gp gc j _ hxg.out.ok.hk (by omega)).mono ?_
     rintro e wb ⟨rfl, hbb⟩
     refine hK _ _ ⟨hbb, ?_⟩
     clear hK K
     try go_frame
     refine oneD 13 (by kernel_rfl) rfl (by kernel_rfl) (fun K hK => ?_)
     go_simp
     refine (MayR_any wb a s Lr vs o gp gc (o.name j) j (hMa.out.below hbb).rf hMa.out.vo hOk.out (by omega) ((hxu.out.below (hMa.out.be.trans (hbb.mono hMa.out.be.size)))) hxg.out.ok.hgl).mono ?_
     rintro e wc ⟨rfl, hbc⟩
     rw [hmv.out]
     have hbac := hbb.trans (hbc.mono hbb.size)
     refine hK _ _ ⟨hbac, ?_⟩
     clear hK K
     try go_frame
     apply tkD 14 hbac rfl
     ·intro T hT
      go_simp
      try rfl
     try go_frame
     apply tkD 15 hbac rfl
     ·intro T hT
      go_simp
      try rfl
     try go_frame
     refine wpAnyD_done (by kernel_rfl) ?_ _
     go_wp2_with fail
     go_meet
     exact ⟨rfl, hba.trans (hbac.mono hba.size)⟩
   case rest =>
    obtain ⟨rfl, hbc⟩ := hcut
    have hMc := Lib.hid (hM.out.below hbc)
    have hcdc : ∀ i u, (opC o gp gc)[i]? = some u → wc.cell? ⟨bq, oq + j * 27 + i, none⟩ = some u := fun i u hu => (hbc.cell (p := ⟨bq, oq + j * 27 + i, none⟩) (cell_lt (hcq.out i u hu))).trans (hcq.out i u hu)
    replace hcdc := Lib.hid hcdc
    clear hM hcq hbc
    cases hdo : (all || (mv == 0)) with
    | false =>
     have hnx : Hid (madeN (L.map Prod.fst) all (j + 1) = s) := Lib.hid (by
      rw [hst.out, if_neg]
      rw [Bool.or_eq_false_iff, beq_eq_false_iff_ne] at hdo
      intro h
      rcases h with h | h
      ·rw [hdo.1] at h; cases h
      ·exact hdo.2 h)
     clear hdo
     go_wp2_with fail
     go_roundw
     case rel => exact ⟨j + 1, a, Lr, vs, by omega, by go_num, by rw [hnx.out]; exact hMc⟩
     case measure => simp [intOf]; omega
    | true =>
     obtain ⟨S2, hS2⟩ : ∃ S, Hid (s.act o (o.name j) = S) := ⟨_, Lib.hid rfl⟩
     have hnx : Hid (madeN (L.map Prod.fst) all (j + 1) = S2) := Lib.hid (by
      rw [hst.out, if_pos]
      ·exact hS2.out
      ·rw [Bool.or_eq_true, beq_iff_eq] at hdo
       exact hdo)
     clear hdo
     go_upto_region 6 with fail
     obtain ⟨wa, hwa⟩ : ∃ wa, Hid (wc.drew = wa) := ⟨_, Lib.hid rfl⟩
     have hba : Below wc.heap.size wc wa := by rw [← hwa.out]; exact (Below.refl _ _).drew
     have hMa := Lib.hid (hMc.out.below hba)
     have hcd : ∀ i u, (opC o gp gc)[i]? = some u → wa.cell? ⟨bq, oq + j * 27 + i, none⟩ = some u := fun i u hu => (hba.cell (p := ⟨bq, oq + j * 27 + i, none⟩) (cell_lt (hcdc.out i u hu))).trans (hcdc.out i u hu)
     replace hcd := Lib.hid hcd
     have hb0 : Below wa.heap.size wa wa := Below.refl _ _
     have hboxa := Lib.hid hMa.out.box
     refine wp_region_E (D := fun T => Below wa.heap.size wa T) 12 (by kernel_rfl) ?_
     rw [hwa.out]
     change wpAnyE _ _ _ _ _ _ 13 _ _ _
     apply tkE 0 hb0 rfl
     ·intro T hT
      exact run_loadR (hboxa.out.below hT) rfl rfl
     try go_frame
     apply tkE 1 hb0 rfl
     ·intro T hT
      go_simp
      try rfl
     try go_frame
     apply tkE 2 hb0 rfl
     ·intro T hT
      go_simp
      try rfl
     try go_frame
     apply tkE 3 hb0 rfl
     ·intro T hT
      go_simp
      try rfl
     try go_frame
     apply tkE 4 hb0 rfl
     ·intro T hT
      exact run_loadO (n := o) (gp := gp) (gc := gc) (b := bq) (k := oq + j * 27) (fun i u hu => (hT.cell (p := ⟨bq, oq + j * 27 + i, none⟩) (cell_lt (hcd.out i u hu))).trans (hcd.out i u hu)) rfl rfl
     try go_frame
     apply tkE 5 hb0 rfl
     ·intro T hT
      go_simp
      try rfl
     try go_frame
     apply tkE 6 hb0 rfl
     ·intro T hT
      go_simp
      try rfl
     try go_frame
     apply tkE 7 hb0 rfl
     ·intro T hT
      go_simp
      try rfl
     try go_frame
     apply tkE 8 hb0 rfl
     ·intro T hT
      exact run_loadO (n := o) (gp := gp) (gc := gc) (b := bq) (k := oq + j * 27) (fun i u hu => (hT.cell (p := ⟨bq, oq + j * 27 + i, none⟩) (cell_lt (hcd.out i u hu))).trans (hcd.out i u hu)) rfl rfl
     try go_frame
     apply tkE 9 hb0 rfl
     ·intro T hT
      go_simp
      try rfl
     try go_frame
     refine oneE 10 (by kernel_rfl) rfl (by kernel_rfl) (fun K hK => ?_)
     go_simp
     refine (Name_any o gp gc j _ hxg.out.ok.hk (by omega)).mono ?_
     rintro e wb ⟨rfl, hbb⟩
     refine hK _ _ ⟨.inr hbb, ?_⟩
     clear hK K
     try go_frame
     have hMb := hMa.out.below hbb
     have hb5b : b5 < wb.heap.size := blk_lt hMb.box
     have hbzb : bz < wb.heap.size := blk_lt hMb.z
     refine oneE 11 (by kernel_rfl) rfl (by kernel_rfl) (fun K hK => ?_)
     go_simp
     refine (DoR_any (fun b => b ≠ b5 ∧ b ≠ bz) wb a s Lr vs o gp gc (o.name j) j hMb.rf hMb.vo hOk.out (by omega) hxg.out.ok hMb.ri (fun b hb => ⟨by omega, by omega⟩) (hxu.out.below hMb.be) (fun q e => ⟨by have := hxl.out q e; omega, by have := hxl.out q e; omega⟩) (fun q e => Nat.lt_of_lt_of_le (hxl.out q e) hMb.be.size) (fun _ => by show (j : Int) < (j : Int) + 1; omega)).mono ?_
     rintro e T2 ⟨a2, L2, vs2, rfl, hR2, hV2, hI2', hbT⟩
     rw [hS2.out] at hR2 hV2 ⊢
     have hbaT := hbb.trans (hbT.mono hbb.size)
     refine hK _ _ ⟨.inr hbaT, ?_⟩
     clear hK K
     try go_frame
     have hMT := hMb.below hbT
     have hboxs := hMT.box
     refine oneE 12 (by kernel_rfl) rfl (by kernel_rfl) (fun K hK => ?_)
     refine wp_store_row 60 _ _ rfl b5 _ rfl rfl 60 _ hboxs (rfC_info _ _ _) rfl (rfC_one _ _ _) ?_
     refine hK _ _ ⟨.inl rfl, ?_⟩
     clear hK K
     try go_frame
     refine wpAnyE_done (by kernel_rfl) ?_ _
     have hnew : MkSt w (T2.setRow b5 (rfC a2 S2 vs2.length)) b5 bz S2 a2 L2 vs2 :=
      ⟨setRow_heap T2 b5 _ _ _ _ hboxs, hMT.z.keep (setRow_other T2 b5 bz _ hz5), hR2.setRow (hI2'.mono fun _ h => h.1), hV2, hI2', belowSetRow hMT.be hb50 _⟩
     obtain ⟨wg, hwg, hPe⟩ := nameW (p := fun W => MkSt w W b5 bz S2 a2 L2 vs2) hnew
     rw [hwg.out]
     replace hPe := Lib.hid hPe
     clear hnew hboxs hMT hMb hboxa hb0
     go_wp2_with fail
     go_roundw
     case rel => exact ⟨j + 1, a2, L2, vs2, by omega, by go_num, by rw [hnx.out]; exact hPe⟩
     case measure => simp [intOf]; omega
  ·have hjn : j = L.length := by omega
   subst hjn
   obtain ⟨S, hS⟩ : ∃ S, Hid (madeN (L.map Prod.fst) all L.length = S) := ⟨_, Lib.hid rfl⟩
   rw [hS.out] at hM
   have hbox := hM.out.box
   have hz := hM.out.z
   go_wp2_with (first
    | (refine wpList_load_row rfl 60 _ rfl b5 rfl 60 _ (0, 0) _ hbox Tryd.underlying60 rfl (rfC_info _ _ _) ?_)
    | (refine wpList_store_row rfl 60 _ _ rfl bz _ rfl rfl 60 rZ hz (rfC_info _ _ _) rfl (rfC_one _ _ _) ?_)
    | fail)
   refine bodyPost_ret (v := .agg (rfC a S vs.length)) ?_ rfl ?_
   ·exact results_cell_row rfl _ _ bz 60 _ (0, 0) _ rfl (setRow_heap _ _ _ _ _ _ hz) Tryd.underlying60 rfl (rfC_info _ _ _)
   ·have hBf := belowSetRow (cs := rfC a S vs.length) hM.out.be hbz0
    have hri : RfIn (· ≠ bz) a Lr := hM.out.ri.mono fun _ h => h.2
    rw [hS.out]
    exact ⟨a, Lr, vs, rfl, hM.out.rf.setRow hri, hM.out.vo, hBf⟩
end Go.Proofs.YtkolilbebkkpdaaDoor

