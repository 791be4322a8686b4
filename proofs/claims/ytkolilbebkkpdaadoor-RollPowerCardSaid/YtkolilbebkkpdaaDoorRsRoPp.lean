/-
  Rolls; plain Lean: nobody but an Admin changes others' roles, or lets others come in, or go.
-/
import Derived.Test.YtkolilbebkkpdaaDoorRmG
namespace Go.Proofs.YtkolilbebkkpdaaDoor

/-- Who has a device in is a member. -/
def RS.J (s : RS) : Prop := ∀ d ∈ s.ins, (s.memb (ofD d)).isSome = true
theorem memb_comes (s : RS) (d r n : Int) : (s.comes d r).memb n = if s.fresh d = true ∧ n = ofD d ∧ s.memb n = none then some ⟨r, none⟩ else s.memb n := by
  unfold RS.comes
  by_cases hf : s.fresh d = true
  · rw [if_pos hf]
    cases hm : s.memb (ofD d) with
    | some m =>
      show lk (if (some m).isSome = true then s.ms else s.ms ++ [(ofD d, ⟨r, none⟩)]) n = _
      rw [if_pos (show (some m).isSome = true from rfl)]
      have : ¬ (s.fresh d = true ∧ n = ofD d ∧ s.memb n = none) := fun ⟨_, h2, h3⟩ => by rw [h2, hm] at h3; cases h3
      rw [if_neg this]; rfl
    | none =>
      show lk (if (none : Option Mb).isSome = true then s.ms else s.ms ++ [(ofD d, ⟨r, none⟩)]) n = _
      rw [if_neg (by simp), lk_append, lk_cons, lk_nil]
      by_cases hn : n = ofD d
      · subst hn
        have hm' : lk s.ms (ofD d) = none := hm
        rw [hm', if_pos rfl, if_pos ⟨hf, rfl, hm⟩]
      · rw [if_neg (fun h => hn h.symm), if_neg (fun h => hn h.2.1)]
        show _ = lk s.ms n
        cases lk s.ms n <;> rfl
  · rw [if_neg hf, if_neg (fun h => hf h.1)]
theorem memb_goes (s : RS) (d n : Int) : (s.goes d).memb n = if n = ofD d ∧ d ∈ s.ins ∧ ¬ (∃ e ∈ s.ins, e ≠ d ∧ ofD e = ofD d) then none else s.memb n := by
  unfold RS.goes
  by_cases hd : d ∈ s.ins
  · rw [if_pos hd]
    by_cases he : ∃ e ∈ s.ins, e ≠ d ∧ ofD e = ofD d
    · rw [if_pos he, if_neg (fun h => h.2.2 he)]; rfl
    · rw [if_neg he]
      show lk (dropL s.ms (ofD d)) n = _
      rw [lk_dropL]
      by_cases hn : n = ofD d
      · rw [if_pos hn, if_pos ⟨hn, hd, he⟩]
      · rw [if_neg hn, if_neg (fun h => hn h.1)]; rfl
  · rw [if_neg hd, if_neg (fun h => hd h.2.1)]
theorem memb_setM (s : RS) (k n : Int) (m : Mb) : (s.setM k m).memb n = if n = k then (s.memb k).map (fun _ => m) else s.memb n := lk_set s.ms k m n
theorem ins_comes (s : RS) (d r : Int) : (s.comes d r).ins = if s.fresh d = true then s.ins ++ [d] else s.ins := by unfold RS.comes; split <;> rfl
theorem ins_goes (s : RS) (d : Int) : (s.goes d).ins = s.ins.filter fun e => decide (e ≠ d) := by
  unfold RS.goes
  split
  · rfl
  · rename_i h
    refine (List.filter_eq_self.2 fun e he => ?_).symm
    rw [decide_eq_true_eq]
    intro e2
    exact h (e2 ▸ he)
theorem J_comes {s : RS} (h : s.J) (d r : Int) : (s.comes d r).J := by
  intro e he
  rw [memb_comes]
  split
  · rfl
  · rename_i hn
    rw [ins_comes] at he
    split at he
    · rename_i hf
      rcases List.mem_append.1 he with he | he
      · exact h e he
      · rw [List.mem_singleton] at he
        subst he
        cases hm : s.memb (ofD e) with
        | some _ => rfl
        | none => exact absurd ⟨hf, rfl, hm⟩ hn
    · exact h e he
theorem J_goes {s : RS} (h : s.J) (d : Int) : (s.goes d).J := by
  intro e he
  rw [ins_goes, List.mem_filter, decide_eq_true_eq] at he
  rw [memb_goes]
  split
  · rename_i hc
    exact absurd ⟨e, he.1, he.2, hc.1⟩ hc.2.2
  · exact h e he.1
theorem J_goAll (m : Int) : ∀ (l : List Int) {s : RS}, s.J → (s.goAll m l).J := by
  intro l
  induction l with
  | nil => intro s h; exact h
  | cons d l ih =>
    intro s h
    show RS.J (RS.goAll (if ofD d = m then s.goes d else s) m l)
    refine ih ?_
    split
    · exact J_goes h d
    · exact h
theorem J_setM {s : RS} (h : s.J) (k : Int) (m : Mb) : (s.setM k m).J := by
  intro e he
  rw [memb_setM]
  split
  · rename_i hk
    have := h e he
    rw [hk] at this
    rw [Option.isSome_map]; exact this
  · exact h e he
theorem J_act {s : RS} (h : s.J) (o : OpI) (i : Idn) : (s.act o i).J := by
  unfold RS.act
  split
  · unfold RS.doCreate
    split
    · exact J_comes h o.b 3
    · exact h
  split
  · exact J_comes h _ _
  split
  · split
    · exact J_goes h _
    · exact J_goAll _ _ h
  split
  · unfold RS.doPromote; split
    · exact J_setM h _ _
    · exact h
  split
  · unfold RS.doGuard; split
    · exact J_setM h _ _
    · exact h
  split
  · unfold RS.doVouch; split
    · split
      · exact J_setM h _ _
      · exact h
    · exact h
  split
  · unfold RS.doObject; split
    · split
      · exact J_setM h _ _
      · exact h
    · exact h
  split
  · unfold RS.doReplace; split
    · exact J_goes (J_comes h _ _) _
    · exact h
  · exact h
theorem J_new : RS.new.J := fun d h => absurd (show d ∈ ([] : List Int) from h) (by simp)
theorem J_made (l : List OpI) (all : Bool) : ∀ i, (madeN l all i).J := by
  intro i
  induction i with
  | zero => exact J_new
  | succ i ih =>
    unfold madeN
    split
    · exact J_act ih _ _
    · exact ih
/-- What a step that touches but one member's devices may turn. -/
structure Mild (s s' : RS) (m : Int) : Prop where
  ins : ∀ d, s.inB d ≠ s'.inB d → ofD d = m
  role : ∀ n, n ≠ m → s'.role n = s.role n
  own : s'.role m = s.role m ∨ s'.role m = 0
theorem Mild.refl (s : RS) (m : Int) : Mild s s m := ⟨fun _ h => absurd rfl h, fun _ _ => rfl, .inl rfl⟩
theorem mild_goes (s : RS) (d : Int) : Mild s (s.goes d) (ofD d) := by
  refine ⟨fun e he => ?_, fun n hn => ?_, ?_⟩
  · by_cases hed : e = d
    · rw [hed]
    · exfalso
      apply he
      unfold RS.inB
      rw [ins_goes]
      simp only [List.mem_filter, decide_eq_true_eq, hed, ne_eq, not_false_eq_true, and_true]
  · unfold RS.role
    rw [memb_goes, if_neg (fun h => hn h.1)]
  · unfold RS.role
    rw [memb_goes]
    split
    · exact .inr rfl
    · exact .inl rfl
theorem Mild.trans {s t u : RS} {m : Int} (h : Mild s t m) (k : Mild t u m) : Mild s u m := by
  refine ⟨fun d hd => ?_, fun n hn => (k.role n hn).trans (h.role n hn), ?_⟩
  · by_cases e : s.inB d = t.inB d
    · exact k.ins d (by rw [← e]; exact hd)
    · exact h.ins d e
  · rcases k.own with e | e
    · rw [e]; exact h.own
    · exact .inr e
theorem mild_goAll (m : Int) : ∀ (l : List Int) (s : RS), Mild s (s.goAll m l) m := by
  intro l
  induction l with
  | nil => intro s; exact Mild.refl s m
  | cons d l ih =>
    intro s
    show Mild s (RS.goAll (if ofD d = m then s.goes d else s) m l) m
    refine Mild.trans ?_ (ih _)
    split
    · rename_i e; rw [← e]; exact mild_goes s d
    · exact Mild.refl s m
theorem mild_comes {s : RS} (d r : Int) (h : (s.memb (ofD d)).isSome = true) : Mild s (s.comes d r) (ofD d) := by
  have hm : ∀ n, (s.comes d r).memb n = s.memb n := fun n => by
    rw [memb_comes]
    split
    · rename_i hc
      rw [← hc.2.1, hc.2.2] at h; cases h
    · rfl
  refine ⟨fun e he => ?_, fun n _ => by unfold RS.role; rw [hm], .inl (by unfold RS.role; rw [hm])⟩
  by_cases hed : e = d
  · rw [hed]
  · exfalso
    apply he
    unfold RS.inB
    rw [ins_comes]
    split
    · simp [hed]
    · rfl
/-- Who is in stays, and all roles. -/
theorem mild_setM {s : RS} {k : Int} {m0 : Mb} (h0 : s.memb k = some m0) (m : Mb) (hr : m.r = m0.r) (x : Int) : Mild s (s.setM k m) x := by
  have hm : ∀ n, (s.setM k m).role n = s.role n := fun n => by
    unfold RS.role
    rw [memb_setM]
    split
    · rename_i e
      rw [e, h0]
      exact hr
    · rfl
  exact ⟨fun d hd => absurd rfl hd, fun n _ => hm n, .inl (hm x)⟩
theorem power_ok {s : RS} (hJ : s.J) {o : OpI} (i : Idn) (hm : s.may o = 0) (h1 : o.k ≠ 1) : s.inB o.b = true ∧ (s.role (ofD o.b) ≠ 3 →
    (∀ d, s.inB d ≠ (s.act o i).inB d → ofD d = ofD o.b ∨ o.k = 13) ∧ (∀ n, n ≠ ofD o.b → (s.act o i).role n = s.role n) ∧ ((s.act o i).role (ofD o.b) = s.role (ofD o.b) ∨ (s.act o i).role (ofD o.b) = 0)) := by
  unfold RS.may at hm
  rw [if_neg h1] at hm
  cases hin : s.inB o.b with
  | false => rw [hin, if_pos rfl] at hm; cases hm
  | true =>
    rw [hin, if_neg (by simp)] at hm
    refine ⟨rfl, fun hr => ?_⟩
    have hrl : s.rules (ofD o.b) = false := decide_eq_false hr
    have hob : (s.memb (ofD o.b)).isSome = true := hJ _ (of_decide_eq_true hin)
    have key : ∀ {t : RS}, Mild s t (ofD o.b) → (∀ d, s.inB d ≠ t.inB d → ofD d = ofD o.b ∨ o.k = 13) ∧ (∀ n, n ≠ ofD o.b → t.role n = s.role n) ∧ (t.role (ofD o.b) = s.role (ofD o.b) ∨ t.role (ofD o.b) = 0) :=
      fun h => ⟨fun d hd => .inl (h.ins d hd), h.role, h.own⟩
    unfold RS.ask at hm
    unfold RS.act
    rw [if_neg h1]
    by_cases h2 : o.k = 2
    · rw [if_pos h2] at hm ⊢
      unfold RS.askAdd at hm
      split at hm
      · cases hm
      · split at hm
        · cases hm
        · rename_i hd
          have hd2 : ofD o.d = ofD o.b := Classical.byContradiction fun h => hd ⟨hrl, h⟩
          rw [← hd2] at key hob
          have := key (mild_comes o.d o.r hob)
          rwa [← hd2]
    rw [if_neg h2] at hm ⊢
    by_cases h3 : o.k = 3
    · rw [if_pos h3] at hm ⊢
      unfold RS.askRemove at hm
      split at hm
      · rename_i hd0
        rw [if_pos hd0]
        split at hm
        · cases hm
        · split at hm
          · cases hm
          · rename_i hd
            have hd2 : ofD o.d = ofD o.b := Classical.byContradiction fun h => hd ⟨hrl, h⟩
            rw [← hd2] at key ⊢
            exact key (mild_goes s o.d)
      · rename_i hd0
        rw [if_neg hd0]
        split at hm
        · cases hm
        · split at hm
          · cases hm
          · rename_i hd
            have hd2 : o.m = ofD o.b := Classical.byContradiction fun h => hd ⟨hrl, h⟩
            rw [← hd2] at key ⊢
            exact key (mild_goAll o.m _ s)
    rw [if_neg h3] at hm ⊢
    by_cases h5 : o.k = 5
    · rw [if_pos h5] at hm
      unfold RS.askPromote at hm
      rw [if_pos hrl] at hm
      cases hm
    rw [if_neg h5] at hm ⊢
    by_cases h9 : o.k = 9
    · rw [if_pos h9]
      unfold RS.doGuard
      split
      · rename_i m e; exact key (mild_setM e _ (by rfl) _)
      · exact key (Mild.refl _ _)
    rw [if_neg h9]
    by_cases h11 : o.k = 11
    · rw [if_pos h11]
      unfold RS.doVouch
      split
      · split
        · rename_i r g e; exact key (mild_setM e _ (by rfl) _)
        · exact key (Mild.refl _ _)
      · exact key (Mild.refl _ _)
    rw [if_neg h11]
    by_cases h12 : o.k = 12
    · rw [if_pos h12]
      unfold RS.doObject
      split
      · rename_i r g e
        split
        · exact key (mild_setM e _ (by rfl) _)
        · exact key (Mild.refl _ _)
      · exact key (Mild.refl _ _)
    rw [if_neg h12]
    by_cases h13 : o.k = 13
    · rw [if_pos h13]
      unfold RS.doReplace
      split
      · rename_i hc
        obtain ⟨_, hio, ho1, ho2⟩ := hc
        have hod : ofD o.o = ofD o.d := by rw [ho1, ho2]
        have hmo := hJ _ hio
        rw [hod] at hmo
        have hc1 := mild_comes (s := s) o.d (s.role (ofD o.d)) hmo
        have hfr : s.fresh o.d = true := by
          rw [if_neg (by omega), if_neg (by omega), if_neg h9, if_neg (by omega), if_neg h11, if_neg h12, if_pos h13] at hm
          unfold RS.askReplace at hm
          split at hm
          · rename_i h; exact absurd hm h
          · split at hm
            · cases hm
            · rename_i h
              cases hf : s.fresh o.d with
              | true => rfl
              | false => exact absurd (.inr (.inr (.inl hf))) h
        have hne : o.d ≠ o.o := by
          intro e
          unfold RS.fresh RS.wasB at hfr
          rw [Bool.and_eq_true, Bool.not_eq_true', decide_eq_false_iff_not] at hfr
          exact hfr.2 (List.mem_append_left _ (e ▸ hio))
        have hdi : o.d ∈ (s.comes o.d (s.role (ofD o.d))).ins := by
          rw [ins_comes, if_pos hfr]; exact List.mem_append_right _ (List.mem_singleton.2 rfl)
        have hmm : ∀ n, ((s.comes o.d (s.role (ofD o.d))).goes o.o).role n = s.role n := by
          intro n
          have h1 : ((s.comes o.d (s.role (ofD o.d))).goes o.o).memb n = (s.comes o.d (s.role (ofD o.d))).memb n := by
            rw [memb_goes, if_neg]
            exact fun h => h.2.2 ⟨o.d, hdi, hne, hod.symm⟩
          have h2 : (s.comes o.d (s.role (ofD o.d))).role n = s.role n := by
            by_cases e : n = ofD o.d
            · subst e
              unfold RS.role
              rw [memb_comes]
              split
              · rename_i hc; rw [hc.2.2] at hmo; cases hmo
              · rfl
            · exact hc1.role n e
          rw [← h2]
          exact congrArg rolI h1
        exact ⟨fun d _ => .inr h13, fun n _ => hmm n, .inl (hmm _)⟩
      · exact key (Mild.refl _ _)
    · rw [if_neg h13]
      exact key (Mild.refl _ _)
end Go.Proofs.YtkolilbebkkpdaaDoor

