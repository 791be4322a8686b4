/-
  Rolls; plain Lean: vouches and objections by one guard, in whatever row.
-/
import Derived.Test.YtkolilbebkkpdaaDoorRsRoQp
import Derived.Test.YtkolilbebkkpdaaDoorRsRoSa
import Derived.Test.YtkolilbebkkpdaaDoorRmG
namespace Go.Proofs.YtkolilbebkkpdaaDoor

/-- A vouch, or an objection, of the row. -/
structure RowOk (o : OpI) : Prop where
  k : (o.k = 12 ∧ o.b = 2) ∨ (o.k = 11 ∧ (o.b = 1 ∨ o.b = 2 ∨ o.b = 3))
  f : o.f = qI
  a : 0 ≤ o.a ∧ o.a ≤ 1000000
/-- What stands behind some operations. -/
structure RowSt (P : OpI → Prop) (s : RS) (vo : List ((Int × Int) × Int)) (ob : Bool) (la : Int) : Prop where
  eq : s = sQ 2 1 vo ob la
  nd : (vo.map Prod.fst).Nodup
  hv : ∀ key t, lk vo key = some t ↔ (∃ o, P o ∧ o.k = 11 ∧ (o.b, o.d) = key ∧ o.a = t) ∧ ∀ o, P o → o.k = 11 → (o.b, o.d) = key → t ≤ o.a
  no : ∀ key, lk vo key = none → ∀ o, P o → o.k = 11 → (o.b, o.d) ≠ key
  hob : ob = true ↔ ∃ o, P o ∧ o.k = 12
  la0 : 0 ≤ la
  la1 : ∀ o, P o → o.k = 12 → o.a ≤ la
  la2 : la = 0 ∨ ∃ o, P o ∧ o.k = 12 ∧ o.a = la
theorem row_start : RowSt (fun _ => False) (sQ 2 1 [] false 0) [] false 0 := by
  refine ⟨rfl, List.nodup_nil, fun key t => ⟨fun h => (by cases h), fun ⟨⟨o, h, _⟩, _⟩ => h.elim⟩, fun _ _ o h => h.elim, ⟨fun h => (by cases h), fun ⟨o, h, _⟩ => h.elim⟩, Int.le_refl _, fun o h => h.elim, .inl rfl⟩
theorem row_object {s : RS} {P : OpI → Prop} {vo : List ((Int × Int) × Int)} {ob : Bool} {la : Int} (h : RowSt P s vo ob la) {o : OpI} (ho : RowOk o) (hk : o.k = 12) (i : Idn) : RowSt (fun x => P x ∨ x = o) (s.act o i) vo true (max la o.a) := by
  have hb : o.b = 2 := by rcases ho.k with h1 | h1 <;> omega
  refine ⟨?_, h.nd, fun key t => ?_, fun key hn x hx hx2 => ?_, ⟨fun _ => ⟨o, .inr rfl, hk⟩, fun _ => rfl⟩, by have := h.la0; omega, fun x hx hx2 => ?_, ?_⟩
  · rw [h.eq]
    have hm : (sQ 2 1 vo ob la).memb (ofD o.b) = some ⟨3, some (gQ 2 1 vo ob la)⟩ := by rw [hb]; rfl
    unfold RS.act
    simp only [hk]
    show (sQ 2 1 vo ob la).doObject o = _
    unfold RS.doObject
    rw [hm]
    show (if (gQ 2 1 vo ob la).id = o.f then _ else _) = _
    rw [if_pos (show (gQ 2 1 vo ob la).id = o.f by rw [ho.f]; rfl), hb]
    rfl
  · rw [h.hv]
    constructor
    · rintro ⟨⟨x, h1, h2, h3, h4⟩, h5⟩
      refine ⟨⟨x, .inl h1, h2, h3, h4⟩, fun x hx hx2 hx3 => ?_⟩
      rcases hx with hx | hx
      · exact h5 x hx hx2 hx3
      · rw [hx, hk] at hx2; omega
    · rintro ⟨⟨x, h1, h2, h3, h4⟩, h5⟩
      rcases h1 with h1 | h1
      · exact ⟨⟨x, h1, h2, h3, h4⟩, fun x hx => h5 x (.inl hx)⟩
      · rw [h1, hk] at h2; omega
  · rcases hx with hx | hx
    · exact h.no key hn x hx hx2
    · rw [hx, hk] at hx2; omega
  · rcases hx with hx | hx
    · have := h.la1 x hx hx2; omega
    · rw [hx]; omega
  · by_cases hle : la ≤ o.a
    · refine .inr ⟨o, .inr rfl, hk, by omega⟩
    · rcases h.la2 with h0 | ⟨x, h1, h2, h3⟩
      · have := ho.a; exfalso; omega
      · exact .inr ⟨x, .inl h1, h2, by omega⟩
theorem row_vouch {s : RS} {P : OpI → Prop} {vo : List ((Int × Int) × Int)} {ob : Bool} {la : Int} (h : RowSt P s vo ob la) {o : OpI} (ho : RowOk o) (hk : o.k = 11) (i : Idn) : ∃ vo', RowSt (fun x => P x ∨ x = o) (s.act o i) vo' ob la ∧ vo'.length ≤ vo.length + 1 := by
  have hb : o.b = 1 ∨ o.b = 2 ∨ o.b = 3 := by rcases ho.k with h1 | h1 <;> omega
  have hgd : (sQ 2 1 vo ob la).guards o = (2, 0) := by
    unfold RS.guards
    rw [ho.f]
    show grd1 o 2 (some (gQ 2 1 vo ob la)) = (2, 0)
    unfold grd1
    show (if o.b ∈ [(1 : Int), 2, 3] then _ else _) = _
    rw [if_pos (by simp only [List.mem_cons, List.not_mem_nil, or_false]; exact hb)]
  have hact : (sQ 2 1 vo ob la).act o i = (sQ 2 1 vo ob la).setM 2 ⟨3, some (vouchG (gQ 2 1 vo ob la) o)⟩ := by
    unfold RS.act
    simp only [hk]
    show (sQ 2 1 vo ob la).doVouch o = _
    unfold RS.doVouch
    rw [hgd, if_pos rfl]
    rfl
  obtain ⟨vo', hv, hnd, hlk, hln⟩ : ∃ vo', vouchG (gQ 2 1 vo ob la) o = gQ 2 1 vo' ob la ∧ (vo'.map Prod.fst).Nodup ∧ (∀ key, lk vo' key = if key = (o.b, o.d) then (match lk vo (o.b, o.d) with | some t => some (min t o.a) | none => some o.a) else lk vo key) ∧ vo'.length ≤ vo.length + 1 := by
    unfold vouchG
    rw [show (gQ 2 1 vo ob la).vo = vo from rfl]
    cases hl : lk vo (o.b, o.d) with
    | none => exact ⟨putL vo (o.b, o.d) o.a, rfl, nodup_putL h.nd _ _, fun key => by rw [lk_putL], putL_len _ _ _⟩
    | some t =>
      by_cases hlt : o.a < t
      · refine ⟨putL vo (o.b, o.d) o.a, if_pos hlt, nodup_putL h.nd _ _, fun key => ?_, putL_len _ _ _⟩
        rw [lk_putL]
        show _ = if key = (o.b, o.d) then some (min t o.a) else lk vo key
        rw [show min t o.a = o.a by omega]
      · refine ⟨vo, if_neg hlt, h.nd, fun key => ?_, Nat.le_succ _⟩
        show _ = if key = (o.b, o.d) then some (min t o.a) else lk vo key
        rw [show min t o.a = t by omega]
        by_cases e : key = (o.b, o.d)
        · rw [if_pos e, e, hl]
        · rw [if_neg e]
  refine ⟨vo', ⟨?_, hnd, fun key t => ?_, fun key hn x hx hx2 hx3 => ?_, ?_, h.la0, fun x hx hx2 => ?_, ?_⟩, hln⟩
  · rw [h.eq, hact, hv]; rfl
  · rw [hlk]
    by_cases e : key = (o.b, o.d)
    · rw [if_pos e]
      subst e
      cases hl : lk vo (o.b, o.d) with
      | none =>
        have hno : ∀ x, P x → x.k = 11 → (x.b, x.d) = (o.b, o.d) → False := fun x h1 h2 h3 => by
          exact h.no _ hl x h1 h2 h3
        constructor
        · intro h1
          injection h1 with h1
          refine ⟨⟨o, .inr rfl, hk, rfl, h1⟩, fun x hx hx2 hx3 => ?_⟩
          rcases hx with hx | hx
          · exact (hno x hx hx2 hx3).elim
          · rw [hx]; omega
        · rintro ⟨⟨x, h1, h2, h3, h4⟩, _⟩
          rcases h1 with h1 | h1
          · exact (hno x h1 h2 h3).elim
          · rw [← h4, h1]
      | some m =>
        obtain ⟨⟨y, y1, y2, y3, y4⟩, y5⟩ := (h.hv _ _).1 hl
        constructor
        · intro h1
          injection h1 with h1
          refine ⟨?_, fun x hx hx2 hx3 => ?_⟩
          · by_cases hlt : o.a < m
            · exact ⟨o, .inr rfl, hk, rfl, by omega⟩
            · exact ⟨y, .inl y1, y2, y3, by omega⟩
          · rcases hx with hx | hx
            · have := y5 x hx hx2 hx3; omega
            · rw [hx]; omega
        · rintro ⟨⟨x, h1, h2, h3, h4⟩, h5⟩
          have h6 := h5 o (.inr rfl) hk rfl
          have h7 := h5 y (.inl y1) y2 y3
          have h8 : m ≤ t ∨ o.a = t := by
            rcases h1 with h1 | h1
            · have := y5 x h1 h2 h3; omega
            · rw [h1] at h4; exact .inr h4
          show some (min m o.a) = some t
          rw [show min m o.a = t by omega]
    · rw [if_neg e, h.hv]
      constructor
      · rintro ⟨⟨x, h1, h2, h3, h4⟩, h5⟩
        refine ⟨⟨x, .inl h1, h2, h3, h4⟩, fun x hx hx2 hx3 => ?_⟩
        rcases hx with hx | hx
        · exact h5 x hx hx2 hx3
        · rw [hx] at hx3; exact absurd hx3.symm e
      · rintro ⟨⟨x, h1, h2, h3, h4⟩, h5⟩
        rcases h1 with h1 | h1
        · exact ⟨⟨x, h1, h2, h3, h4⟩, fun x hx => h5 x (.inl hx)⟩
        · rw [h1] at h3; exact absurd h3.symm e
  · rw [hlk] at hn
    by_cases e : key = (o.b, o.d)
    · rw [if_pos e] at hn
      cases hl : lk vo (o.b, o.d) with
      | none => rw [hl] at hn; cases hn
      | some m => rw [hl] at hn; cases hn
    · rw [if_neg e] at hn
      rcases hx with hx | hx
      · exact h.no key hn x hx hx2 hx3
      · rw [hx] at hx3; exact e hx3.symm
  · rw [h.hob]
    constructor
    · rintro ⟨x, h1, h2⟩; exact ⟨x, .inl h1, h2⟩
    · rintro ⟨x, h1, h2⟩
      rcases h1 with h1 | h1
      · exact ⟨x, h1, h2⟩
      · rw [h1, hk] at h2; omega
  · rcases hx with hx | hx
    · exact h.la1 x hx hx2
    · rw [hx, hk] at hx2; omega
  · rcases h.la2 with h0 | ⟨x, h1, h2, h3⟩
    · exact .inl h0
    · exact .inr ⟨x, .inl h1, h2, h3⟩
theorem sameL_true' {a b : List (Int × Mb)} (hl : a.length = b.length) (h : ∀ p ∈ a, ∃ m, lk b p.1 = some m ∧ sameM p.2 m = true) : sameL a b = true := by
  unfold sameL
  rw [Bool.and_eq_true, decide_eq_true_eq, List.all_eq_true]
  refine ⟨hl, fun p hp => ?_⟩
  obtain ⟨m, h1, h2⟩ := h p hp
  rw [h1]; exact h2
theorem row_step {s : RS} {P : OpI → Prop} {vo : List ((Int × Int) × Int)} {ob : Bool} {la : Int} (h : RowSt P s vo ob la) {o : OpI} (ho : RowOk o) (i : Idn) : ∃ vo' ob' la', RowSt (fun x => P x ∨ x = o) (s.act o i) vo' ob' la' := by
  rcases ho.k with h1 | h1
  · exact ⟨_, _, _, row_object h ho h1.1 i⟩
  · obtain ⟨vo', h2, _⟩ := row_vouch h ho h1.1 i
    exact ⟨vo', ob, la, h2⟩
theorem RowSt.congr {s : RS} {P Q : OpI → Prop} {vo : List ((Int × Int) × Int)} {ob : Bool} {la : Int} (h : RowSt P s vo ob la) (e : ∀ x, P x ↔ Q x) : RowSt Q s vo ob la := by
  have : P = Q := funext fun x => propext (e x)
  rw [← this]; exact h
theorem row_same {P : OpI → Prop} {s s' : RS} {vo vo' : List ((Int × Int) × Int)} {ob ob' : Bool} {la la' : Int} (h : RowSt P s vo ob la) (h' : RowSt P s' vo' ob' la') : s.same s' = true ∧ s.due 2 5 = s'.due 2 5 := by
  have hlk : ∀ key, lk vo key = lk vo' key := fun key => by
    cases e : lk vo key with
    | some t => exact ((h'.hv key t).2 ((h.hv key t).1 e)).symm
    | none =>
      cases e' : lk vo' key with
      | none => rfl
      | some t => rw [(h.hv key t).2 ((h'.hv key t).1 e')] at e; cases e
  have hmem : ∀ p, p ∈ vo ↔ p ∈ vo' := fun p => by
    obtain ⟨k, t⟩ := p
    constructor
    · intro hp
      have := lk_of_mem h.nd hp
      rw [hlk] at this
      exact lk_mem this
    · intro hp
      have := lk_of_mem h'.nd hp
      rw [← hlk] at this
      exact lk_mem this
  have hnd1 : vo.Nodup := List.Pairwise.of_map Prod.fst (fun _ _ hab e => hab (congrArg Prod.fst e)) h.nd
  have hnd2 : vo'.Nodup := List.Pairwise.of_map Prod.fst (fun _ _ hab e => hab (congrArg Prod.fst e)) h'.nd
  have hperm : vo.Perm vo' := (List.perm_ext_iff_of_nodup hnd1 hnd2).2 hmem
  have hob : ob = ob' := by
    cases ob with
    | true => exact ((h'.hob).2 ((h.hob).1 rfl)).symm
    | false =>
      cases ob' with
      | false => rfl
      | true => exact absurd ((h.hob).2 ((h'.hob).1 rfl)) (by simp)
  have hla : la = la' := by
    have h1 : la ≤ la' := by
      rcases h.la2 with h0 | ⟨x, x1, x2, x3⟩
      · have := h'.la0; omega
      · have := h'.la1 x x1 x2; omega
    have h2 : la' ≤ la := by
      rcases h'.la2 with h0 | ⟨x, x1, x2, x3⟩
      · have := h.la0; omega
      · have := h.la1 x x1 x2; omega
    omega
  subst hob
  subst hla
  rw [h.eq, h'.eq]
  have hev : eqV vo vo' = true := eqV_true hperm.length_eq fun p hp => lk_of_mem h'.nd ((hmem p).1 hp)
  constructor
  · have hg : sameG (some (gQ 2 1 vo ob la)) (some (gQ 2 1 vo' ob la)) = true := by
      show (decide (qI = qI) && decide ([(1 : Int), 2, 3] = [1, 2, 3]) && decide ((2 : Int) = 2) && decide ((1 : Int) = 1) && eqV vo vo' && decide (ob = ob) && decide (la = la)) = true
      rw [hev]
      simp
    have hl : sameL (sQ 2 1 vo ob la).ms (sQ 2 1 vo' ob la).ms = true := by
      refine sameL_true' rfl fun p hp => ?_
      have hp : p ∈ [((1 : Int), (⟨3, none⟩ : Mb)), (2, ⟨3, some (gQ 2 1 vo ob la)⟩), (3, ⟨2, none⟩)] := hp
      simp only [List.mem_cons, List.not_mem_nil, or_false] at hp
      rcases hp with rfl | rfl | rfl
      · exact ⟨⟨3, none⟩, rfl, rfl⟩
      · refine ⟨⟨3, some (gQ 2 1 vo' ob la)⟩, rfl, ?_⟩
        unfold sameM
        rw [hg]; rfl
      · exact ⟨⟨2, none⟩, rfl, rfl⟩
    unfold RS.same
    rw [hl]
    rfl
  · have hats : sortI ((gQ 2 1 vo ob la).ats 5) = sortI ((gQ 2 1 vo' ob la).ats 5) := by
      refine sortI_congr ?_
      unfold Gd.ats
      exact (hperm.filter _).map _
    show dueL (gQ 2 1 vo ob la) (sortI ((gQ 2 1 vo ob la).ats 5)) = dueL (gQ 2 1 vo' ob la) (sortI ((gQ 2 1 vo' ob la).ats 5))
    rw [hats]
    rfl
end Go.Proofs.YtkolilbebkkpdaaDoor

