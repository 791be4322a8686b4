/-
  Rolls; plain Lean: what holds of a roll stays so.
-/
import Derived.Test.YtkolilbebkkpdaaDoorRoA2
import Derived.Test.YtkolilbebkkpdaaDoorRoDo
namespace Go.Proofs.YtkolilbebkkpdaaDoor

theorem Gd.Ok.mono {g : Gd} {k k' : Nat} (h : g.Ok k) (hk : k ≤ k') : g.Ok k' := ⟨h.gl, h.ne, h.gb, h.hn, h.ht, h.hl, Nat.le_trans h.vl hk, h.vb, h.vn, by have := h.hi; omega⟩
theorem RS.Ok.mono {s : RS} {k k' : Nat} (h : s.Ok k) (hk : k ≤ k') : s.Ok k' := ⟨h.ins, h.nd, h.mn, h.mem, fun p hp g hg => (h.gd p hp g hg).mono hk, h.ids, h.bk⟩
theorem new_ok (k : Nat) : RS.Ok RS.new k where
  ins := fun d h => absurd (show d ∈ ([] : List Int) from h) (by simp)
  nd := List.nodup_nil
  mn := List.nodup_nil
  mem := fun p h => absurd (show p ∈ ([] : List (Int × Mb)) from h) (by simp)
  gd := fun p h => absurd (show p ∈ ([] : List (Int × Mb)) from h) (by simp)
  ids := fun i p h => absurd (show p ∈ ([] : List (Int × Mb)) from h) (by simp)
  bk := ⟨Int.le_refl _, by show (0 : Int) ≤ 1000000; decide⟩
theorem RS.Ok.bk_to {s : RS} {k : Nat} (h : s.Ok k) {n : Int} (hn : 0 ≤ n ∧ n ≤ 1000000) : RS.Ok ⟨s.ins, s.gone, s.ms, n⟩ k := ⟨h.ins, h.nd, h.mn, h.mem, h.gd, h.ids, hn⟩
theorem comes_ok {s : RS} {k : Nat} (hs : s.Ok k) (d : Int) {r : Int} (hr : 0 ≤ r ∧ r ≤ 1000000) : (s.comes d r).Ok k := by
  unfold RS.comes
  by_cases hf : s.fresh d = true
  · rw [if_pos hf]
    unfold RS.fresh RS.wasB at hf
    rw [Bool.and_eq_true, Bool.not_eq_true', decide_eq_false_iff_not, decide_eq_true_eq] at hf
    obtain ⟨h0, hn⟩ := hf
    have hd := ofD_pos h0
    have hb := ofD_bd d
    have hp := more_perm s.ins s.gone d
    have hnd : (s.ins ++ [d] ++ s.gone).Nodup := hp.nodup_iff.2 (nodup_snoc hs.nd hn)
    have hin : ∀ e ∈ s.ins ++ [d] ++ s.gone, 1 ≤ e ∧ e ≤ 7 := fun e he => by
      rw [hp.mem_iff] at he
      rcases List.mem_append.1 he with he | he
      · exact hs.ins e he
      · rw [List.mem_singleton] at he; rw [he]; exact hd
    by_cases hm : (s.memb (ofD d)).isSome = true
    · rw [if_pos hm]
      exact ⟨hin, hnd, hs.mn, hs.mem, hs.gd, hs.ids, hs.bk⟩
    · rw [if_neg hm]
      have hno : ∀ p ∈ s.ms, p.1 ≠ ofD d := by
        have : lk s.ms (ofD d) = none := by
          cases h : lk s.ms (ofD d) with
          | none => rfl
          | some m => exact absurd (show (s.memb (ofD d)).isSome = true by unfold RS.memb; rw [h]; rfl) hm
        exact lk_none.1 this
      refine ⟨hin, hnd, ?_, ?_, ?_, ?_, hs.bk⟩
      · show ((s.ms ++ [_]).map Prod.fst).Nodup
        rw [List.map_append]
        refine List.nodup_append.2 ⟨hs.mn, by simp, fun a ha b hb e => ?_⟩
        obtain ⟨p, hp, rfl⟩ := List.mem_map.1 ha
        simp only [List.map_cons, List.map_nil, List.mem_singleton] at hb
        exact hno p hp (e.trans hb)
      · intro p hp
        rcases List.mem_append.1 hp with hp | hp
        · exact hs.mem p hp
        · rw [List.mem_singleton] at hp; subst hp; exact ⟨by show 1 ≤ ofD d; omega, hb.2, hr⟩
      · intro p hp g hg
        rcases List.mem_append.1 hp with hp | hp
        · exact hs.gd p hp g hg
        · rw [List.mem_singleton] at hp; subst hp; cases hg
      · intro i p hp q hq h1 h2
        rcases List.mem_append.1 hp with hp | hp
        · rcases List.mem_append.1 hq with hq | hq
          · exact hs.ids i p hp q hq h1 h2
          · rw [List.mem_singleton] at hq; subst hq; cases h2
        · rw [List.mem_singleton] at hp; subst hp; cases h1
  · rw [if_neg hf]; exact hs
theorem goes_ok {s : RS} {k : Nat} (hs : s.Ok k) (d : Int) : (s.goes d).Ok k := by
  unfold RS.goes
  by_cases hd : d ∈ s.ins
  · rw [if_pos hd]
    have h1 : ∀ e ∈ (s.ins.filter fun e => decide (e ≠ d)) ++ (s.gone ++ [d]), 1 ≤ e ∧ e ≤ 7 := fun e he => hs.ins e ((swap_mem hd e).1 he)
    have h2 := swap_nodup hs.nd hd
    split
    · exact ⟨h1, h2, hs.mn, hs.mem, hs.gd, hs.ids, hs.bk⟩
    · have hsub : ∀ p ∈ dropL s.ms (ofD d), p ∈ s.ms := fun p hp => (mem_dropL.1 hp).1
      exact ⟨h1, h2, nodup_dropL hs.mn _, fun p hp => hs.mem p (hsub p hp), fun p hp => hs.gd p (hsub p hp), fun i p hp q hq => hs.ids i p (hsub p hp) q (hsub q hq), hs.bk⟩
  · rw [if_neg hd]; exact hs
theorem goAll_ok {k : Nat} (m : Int) : ∀ (l : List Int) (s : RS), s.Ok k → (s.goAll m l).Ok k := by
  intro l
  induction l with
  | nil => intro s h; exact h
  | cons d l ih =>
    intro s h
    show RS.Ok (RS.goAll (if ofD d = m then s.goes d else s) m l) k
    refine ih _ ?_
    split
    · exact goes_ok h d
    · exact h
theorem mem_setM {s : RS} {n : Int} {m : Mb} {p : Int × Mb} (h : p ∈ (s.setM n m).ms) : p = (n, m) ∨ (p ∈ s.ms ∧ p.1 ≠ n) := by
  obtain ⟨q, hq, e⟩ := List.mem_map.1 h
  by_cases e2 : q.1 = n
  · rw [if_pos e2] at e; exact .inl e.symm
  · rw [if_neg e2] at e; exact .inr (e ▸ ⟨hq, e2⟩)
theorem setM_ok {s : RS} {k : Nat} (hs : s.Ok k) {n : Int} {m0 m : Mb} (h0 : (n, m0) ∈ s.ms) (hr : 0 ≤ m.r ∧ m.r ≤ 1000000) (hg : ∀ g, m.g = some g → g.Ok k) (hid : ∀ i, isId i m.g = true → ∀ p ∈ s.ms, p.1 ≠ n → isId i p.2.g = false) : (s.setM n m).Ok k := by
  refine ⟨hs.ins, hs.nd, ?_, fun p hp => ?_, fun p hp g hgg => ?_, fun i p hp q hq h1 h2 => ?_, hs.bk⟩
  · have e : (s.setM n m).ms.map Prod.fst = s.ms.map Prod.fst := by
      show (s.ms.map _).map _ = _
      rw [List.map_map]
      refine List.map_congr_left fun p _ => ?_
      show (if p.1 = n then (n, m) else p).1 = p.1
      by_cases e : p.1 = n
      · rw [if_pos e, e]
      · rw [if_neg e]
    rw [e]; exact hs.mn
  · rcases mem_setM hp with rfl | ⟨hp, _⟩
    · have := hs.mem _ h0
      exact ⟨this.1, this.2.1, hr⟩
    · exact hs.mem p hp
  · rcases mem_setM hp with rfl | ⟨hp, _⟩
    · exact hg g hgg
    · exact hs.gd p hp g hgg
  · rcases mem_setM hp with rfl | ⟨hp, e1⟩ <;> rcases mem_setM hq with rfl | ⟨hq, e2⟩
    · rfl
    · have := hid i h1 q hq e2
      rw [h2] at this; cases this
    · have := hid i h2 p hp e1
      rw [h1] at this; cases this
    · exact hs.ids i p hp q hq h1 h2
theorem id_same {s : RS} {k : Nat} (hs : s.Ok k) {n : Int} {m0 m : Mb} (h0 : (n, m0) ∈ s.ms) (h : ∀ i, isId i m.g = true → isId i m0.g = true) : ∀ i, isId i m.g = true → ∀ p ∈ s.ms, p.1 ≠ n → isId i p.2.g = false := fun i hi p hp hne => by
  cases e : isId i p.2.g with
  | false => rfl
  | true => exact absurd (hs.ids i p hp _ h0 e (h i hi)) hne
theorem putL_len {α β : Type} [DecidableEq α] (ks : List (α × β)) (a : α) (b : β) : (putL ks a b).length ≤ ks.length + 1 := by
  unfold putL
  split
  · rw [List.length_map]; omega
  · rw [List.length_append]; exact Nat.le_refl _
theorem vouch_ok {g : Gd} {k : Nat} (h : g.Ok k) {o : OpI} (ho : o.Ok) : (vouchG g o).Ok (k + 1) := by
  have h2 : Gd.Ok ⟨g.id, g.gs, g.n, g.t, putL g.vo (o.b, o.d) o.a, g.ob, g.la⟩ (k + 1) :=
    ⟨h.gl, h.ne, h.gb, h.hn, h.ht, h.hl, Nat.le_trans (putL_len _ _ _) (Nat.succ_le_succ h.vl), fun v hv => by
      rcases mem_putL hv with rfl | hv
      · exact ⟨ho.hb, ho.hd, ho.ha⟩
      · exact h.vb v hv, nodup_putL h.vn _ _, by have := h.hi; show g.id.s ≤ _; omega⟩
  unfold vouchG
  split
  · split
    · exact h2
    · exact h.mono (Nat.le_succ k)
  · exact h2
theorem vouchG_id (g : Gd) (o : OpI) : (vouchG g o).id = g.id := by
  unfold vouchG
  split
  · split <;> rfl
  · rfl
/-- An operation done. -/
theorem act_ok {s : RS} {k k' : Nat} (hs : s.Ok k) {o : OpI} (ho : o.Ok) (i : Idn) (hk : k < k') (hg : o.k = 9 → o.gs ≠ [] ∧ 1 ≤ o.n ∧ (k : Int) < i.s ∧ i.s ≤ k') : (s.act o i).Ok k' := by
  have hs' := hs.mono (Nat.le_of_lt hk)
  unfold RS.act
  split
  · unfold RS.doCreate
    split
    · exact (comes_ok hs' o.b (by decide)).bk_to ho.hn
    · exact hs'
  split
  · exact comes_ok hs' o.d ho.hr
  split
  · split
    · exact goes_ok hs' o.d
    · exact goAll_ok o.m _ s hs'
  split
  · unfold RS.doPromote
    split
    · rename_i m hm
      exact setM_ok hs' (lk_mem hm) ho.hr (fun g hgg => hs'.gd _ (lk_mem hm) g hgg) (id_same hs' (lk_mem hm) fun _ h => h)
    · exact hs'
  split
  · rename_i h9
    obtain ⟨h1, h2, h3, h4⟩ := hg h9
    unfold RS.doGuard
    split
    · rename_i m hm
      refine setM_ok hs' (lk_mem hm) ⟨(hs.mem _ (lk_mem hm)).2.2.1, (hs.mem _ (lk_mem hm)).2.2.2⟩ (fun g hgg => ?_) (fun j hj p hp _ => ?_)
      · injection hgg with hgg
        subst hgg
        exact ⟨ho.hgl, h1, ho.hgb, ⟨h2, ho.hn.2⟩, ho.ht, ⟨Int.le_refl _, by show (0 : Int) ≤ 1000000; decide⟩, Nat.zero_le _, fun _ h => (by cases h), List.nodup_nil, h4⟩
      · have hji : i = j := of_decide_eq_true hj
        cases hpg : p.2.g with
        | none => rfl
        | some g =>
          have := (hs.gd p hp g hpg).hi
          refine decide_eq_false fun e => ?_
          rw [e, ← hji] at this
          omega
    · exact hs'
  split
  · unfold RS.doVouch
    split
    · split
      · rename_i r g hm
        refine setM_ok hs' (lk_mem hm) ⟨(hs.mem _ (lk_mem hm)).2.2.1, (hs.mem _ (lk_mem hm)).2.2.2⟩ (fun g' hgg => ?_) (id_same hs' (lk_mem hm) fun j hj => ?_)
        · injection hgg with hgg
          subst hgg
          exact (vouch_ok (hs.gd _ (lk_mem hm) g rfl) ho).mono hk
        · have hj2 : (vouchG g o).id = j := of_decide_eq_true hj
          rw [vouchG_id] at hj2
          exact decide_eq_true hj2
      · exact hs'
    · exact hs'
  split
  · unfold RS.doObject
    split
    · rename_i r g hm
      split
      · have hgk := hs'.gd _ (lk_mem hm) g rfl
        refine setM_ok hs' (lk_mem hm) ⟨(hs.mem _ (lk_mem hm)).2.2.1, (hs.mem _ (lk_mem hm)).2.2.2⟩ (fun g' hgg => ?_) (id_same hs' (lk_mem hm) fun j hj => hj)
        injection hgg with hgg
        subst hgg
        have hl := hgk.hl
        have ha := ho.ha
        exact ⟨hgk.gl, hgk.ne, hgk.gb, hgk.hn, hgk.ht, ⟨by show 0 ≤ max g.la o.a; omega, by show max g.la o.a ≤ 1000000; omega⟩, hgk.vl, hgk.vb, hgk.vn, hgk.hi⟩
      · exact hs'
    · exact hs'
  split
  · unfold RS.doReplace
    split
    · refine goes_ok (comes_ok hs' o.d ?_) o.o
      unfold RS.role rolI
      split
      · rename_i m hm
        exact ⟨(hs.mem _ (lk_mem hm)).2.2.1, (hs.mem _ (lk_mem hm)).2.2.2⟩
      · decide
    · exact hs'
  · exact hs'
end Go.Proofs.YtkolilbebkkpdaaDoor
