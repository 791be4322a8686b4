/-
  Numbers as bytes, read; a chain of bytes; plain Lean.
-/
import Derived.Test.YtcnhgkgabddjmaaChO
namespace Go.Proofs.Ytcnhgkgabddjmaa
open Go.RowKit Go.Maps

/-- A number is read: the error (0: none), the number, what is left. -/
def numP (k u : Nat) : List Int → Int × Nat × List Int
  | [] => (9, 0, [])
  | x :: l => if (k = 9 ∧ 1 < x) ∨ (x = 0 ∧ 0 < k) then (7, 0, []) else if x < 128 then (0, u + x.toNat * 128 ^ k, l) else numP (k + 1) (u + (x.toNat % 128) * 128 ^ k) l
theorem numP_sound : ∀ (l : List Int) (k u v : Nat) (r : List Int), k ≤ 9 → (∀ x ∈ l, 0 ≤ x ∧ x < 256) → numP k u l = (0, v, r) →
    ∃ y, v = u + y * 128 ^ k ∧ l = sevens y ++ r ∧ (0 < k → 0 < y) ∧ y < 2 * 128 ^ (9 - k)
  | [], k, u, v, r, _, _, h => by unfold numP at h; injection h with h; omega
  | x :: l, k, u, v, r, hk, hb, h => by
    obtain ⟨x0, x1⟩ := hb x (List.mem_cons_self ..)
    unfold numP at h
    by_cases c1 : (k = 9 ∧ 1 < x) ∨ (x = 0 ∧ 0 < k)
    · rw [if_pos c1] at h; injection h with h; omega
    · rw [if_neg c1] at h
      have hp : 0 < 128 ^ (9 - k) := Nat.pow_pos (by omega)
      by_cases c2 : x < 128
      · rw [if_pos c2] at h
        injection h with _ h
        injection h with h1 h2
        refine ⟨x.toNat, h1.symm, ?_, by omega, ?_⟩
        · rw [sevens_last (by omega), ← h2]
          have : ((x.toNat : Nat) : Int) = x := by omega
          rw [this]; rfl
        · by_cases h9 : k = 9
          · subst h9; simp; omega
          · have : 128 ^ 1 ≤ 128 ^ (9 - k) := Nat.pow_le_pow_right (by omega) (by omega)
            omega
      · rw [if_neg c2] at h
        have hk9 : k ≠ 9 := by omega
        obtain ⟨y, h1, h2, h3, h4⟩ := numP_sound l (k + 1) _ v r (by omega) (fun z hz => hb z (List.mem_cons_of_mem _ hz)) h
        have h3 := h3 (by omega)
        have hmod : (x.toNat % 128 + 128 * y) % 128 = x.toNat % 128 := by omega
        have hdiv : (x.toNat % 128 + 128 * y) / 128 = y := by omega
        refine ⟨x.toNat % 128 + 128 * y, ?_, ?_, by omega, ?_⟩
        · rw [h1, Nat.pow_succ, Nat.add_mul]
          have : y * (128 ^ k * 128) = 128 * y * 128 ^ k := by rw [Nat.mul_comm (128 ^ k), ← Nat.mul_assoc, Nat.mul_comm y]
          omega
        · rw [sevens_more (by omega), hmod, hdiv, h2]
          have : ((x.toNat % 128 + 128 : Nat) : Int) = x := by omega
          rw [this]; rfl
        · have e : 128 ^ (9 - k) = 128 ^ (9 - (k + 1)) * 128 := by rw [← Nat.pow_succ]; congr 1; omega
          rw [e]
          omega
theorem numP_complete : ∀ (y k u : Nat) (r : List Int), k ≤ 9 → (0 < k → 0 < y) → y < 2 * 128 ^ (9 - k) → numP k u (sevens y ++ r) = (0, u + y * 128 ^ k, r) := by
  intro y
  induction y using Nat.strongRecOn with
  | ind y ih =>
    intro k u r hk hy hb
    by_cases h : y < 128
    · rw [sevens_last h]
      show numP k u ((y : Int) :: r) = _
      unfold numP
      rw [if_neg, if_pos (by omega), Int.toNat_natCast]
      intro hc
      rcases hc with ⟨h9, h1⟩ | ⟨h0, h1⟩
      · subst h9; simp at hb; omega
      · have := hy h1; omega
    · have h9 : k ≠ 9 := by intro e; subst e; simp at hb; omega
      rw [sevens_more (by omega)]
      show numP k u (((y % 128 + 128 : Nat) : Int) :: (sevens (y / 128) ++ r)) = _
      unfold numP
      rw [if_neg (by omega), if_neg (by omega), Int.toNat_natCast]
      have e : 128 ^ (9 - k) = 128 ^ (9 - (k + 1)) * 128 := by rw [← Nat.pow_succ]; congr 1; omega
      rw [e] at hb
      rw [ih (y / 128) (by omega) (k + 1) _ r (by omega) (fun _ => by omega) (by omega)]
      have e2 : (y % 128 + 128) % 128 = y % 128 := by omega
      rw [e2, Nat.pow_succ]
      have e3 : y / 128 * (128 ^ k * 128) = (128 * (y / 128)) * 128 ^ k := by rw [Nat.mul_comm (128 ^ k), ← Nat.mul_assoc, Nat.mul_comm (y / 128)]
      have e4 : y = y % 128 + 128 * (y / 128) := by omega
      have e5 : y * 128 ^ k = (y % 128) * 128 ^ k + (128 * (y / 128)) * 128 ^ k := by rw [← Nat.add_mul, ← e4]
      rw [e3, e5]
      congr 2
      omega
theorem numP_drop (l : List Int) : ∀ (k u v : Nat) (e : Int) (r : List Int), numP k u l = (e, v, r) → e = 0 → ∃ j, r = l.drop j := by
  induction l with
  | nil => intro k u v e r h he; unfold numP at h; injection h with h; omega
  | cons x l ih =>
    intro k u v e r h he
    unfold numP at h
    split at h
    · injection h with h; omega
    · split at h
      · injection h with _ h
        injection h with _ h
        exact ⟨1, h.symm⟩
      · obtain ⟨j, hj⟩ := ih _ _ _ _ _ h he
        exact ⟨j + 1, hj⟩
theorem sevens_inj {a b : Nat} {t t' : List Int} (ha : a < 18446744073709551616) (hb : b < 18446744073709551616) (h : sevens a ++ t = sevens b ++ t') : a = b ∧ t = t' := by
  have h1 := numP_complete a 0 0 t (by omega) (by omega) (by simpa using ha)
  have h2 := numP_complete b 0 0 t' (by omega) (by omega) (by simpa using hb)
  rw [h, h2] at h1
  injection h1 with _ h1
  injection h1 with h1 h3
  refine ⟨?_, h3.symm⟩
  simp at h1
  omega
/-- A number is read at a place among bytes: the number, the place, the error. -/
def rdNum (bs : List Int) (s : Nat × Int) : Nat × Nat × Int :=
  if s.2 ≠ 0 then (0, s) else
    if (numP 0 0 (bs.drop s.1)).1 = 0 then ((numP 0 0 (bs.drop s.1)).2.1, bs.length - (numP 0 0 (bs.drop s.1)).2.2.length, 0) else (0, s.1, (numP 0 0 (bs.drop s.1)).1)
theorem rdNum_ok {bs : List Int} {s : Nat × Int} {v a : Nat} (hb : ∀ x ∈ bs, 0 ≤ x ∧ x < 256) (hs : s.1 ≤ bs.length) (h : rdNum bs s = (v, a, 0)) :
    s.2 = 0 ∧ bs.drop s.1 = sevens v ++ bs.drop a ∧ v < 18446744073709551616 ∧ s.1 ≤ a ∧ a ≤ bs.length := by
  unfold rdNum at h
  by_cases h0 : s.2 ≠ 0
  · rw [if_pos h0] at h
    injection h with _ h
    exact absurd (congrArg Prod.snd h) h0
  · rw [if_neg h0] at h
    split at h
    · rename_i he
      injection h with h1 h2
      injection h2 with h2 _
      obtain ⟨e, v', r, hq⟩ : ∃ e v' r, numP 0 0 (bs.drop s.1) = (e, v', r) := ⟨_, _, _, rfl⟩
      rw [hq] at he h1 h2
      dsimp only at he h1 h2
      subst he
      subst h1
      obtain ⟨y, hy, hl, _, hyb⟩ := numP_sound _ _ _ _ _ (by omega) (fun x hx => hb x (List.mem_of_mem_drop hx)) hq
      have hvy : v' = y := by simp at hy; exact hy
      subst hvy
      have hlen := congrArg List.length hl
      rw [List.length_drop, List.length_append] at hlen
      have hr : bs.drop a = r := by
        have e1 : bs.drop a = (bs.drop s.1).drop (sevens v').length := by
          rw [List.drop_drop]; congr 1; omega
        rw [e1, hl, List.drop_left]
      refine ⟨by omega, ?_, by simpa using hyb, by omega, by omega⟩
      rw [hr]; exact hl
    · rename_i he
      injection h with _ h
      injection h with _ h
      exact absurd h he
theorem rdNum_go {bs : List Int} {a : Nat} {v : Nat} {r : List Int} (hv : v < 18446744073709551616) (h : bs.drop a = sevens v ++ r) : rdNum bs (a, 0) = (v, bs.length - r.length, 0) ∧ bs.drop (bs.length - r.length) = r := by
  have h1 := numP_complete v 0 0 r (by omega) (by omega) (by simpa using hv)
  rw [Nat.pow_zero, Nat.mul_one, Nat.zero_add] at h1
  constructor
  · unfold rdNum
    rw [if_neg (by simp)]
    simp only [h, h1]
    rfl
  · have hl := congrArg List.length h
    rw [List.length_drop, List.length_append] at hl
    have e1 : bs.drop (bs.length - r.length) = (bs.drop a).drop (sevens v).length := by
      rw [List.drop_drop]
      have := sevens_len64 hv
      congr 1; omega
    rw [e1, h, List.drop_left]
theorem rdNum_err (bs : List Int) (s : Nat × Int) (h : (rdNum bs s).2.2 = 0) : s.2 = 0 := by
  unfold rdNum at h
  by_cases h0 : s.2 ≠ 0
  · rw [if_pos h0] at h; exact absurd h h0
  · omega
theorem rdNum_bd {bs : List Int} (hb : ∀ x ∈ bs, 0 ≤ x ∧ x < 256) {s : Nat × Int} (hs : s.1 ≤ bs.length) : (rdNum bs s).1 < 18446744073709551616 ∧ (rdNum bs s).2.1 ≤ bs.length := by
  obtain ⟨v, a, e, h⟩ : ∃ v a e, rdNum bs s = (v, a, e) := ⟨_, _, _, rfl⟩
  rw [h]
  by_cases he : e = 0
  · subst he
    obtain ⟨_, _, h1, _, h2⟩ := rdNum_ok hb hs h
    exact ⟨h1, h2⟩
  · unfold rdNum at h
    split at h
    · injection h with h1 h2
      rw [← h1]
      refine ⟨show 0 < 18446744073709551616 by decide, ?_⟩
      rw [h2] at hs
      exact hs
    · split at h
      · injection h with _ h
        injection h with _ h
        exact absurd h.symm he
      · injection h with h1 h2
        injection h2 with h2 _
        rw [← h1, ← h2]
        exact ⟨show 0 < 18446744073709551616 by decide, hs⟩
/-- The number with a sign of one from 0 on. -/
def unI (v : Nat) : Int := if v % 2 = 0 then ((v / 2 : Nat) : Int) else -((v / 2 : Nat) : Int) - 1
theorem unI_two (n : Nat) : unI (2 * n) = n := by unfold unI; rw [if_pos (by omega)]; congr 1; omega
theorem unI_bd {v : Nat} (h : v < 18446744073709551616) : -9223372036854775808 ≤ unI v ∧ unI v ≤ 9223372036854775807 := by unfold unI; split <;> omega
theorem unI_pos {v : Nat} (h : 0 ≤ unI v) : v = 2 * (unI v).toNat := by
  unfold unI at h ⊢
  by_cases h1 : v % 2 = 0
  · rw [if_pos h1] at h ⊢; omega
  · rw [if_neg h1] at h; omega
/-- How many of something follow. -/
def rdMany (most : Int) (bs : List Int) (s : Nat × Int) : Int × Nat × Int :=
  if unI (rdNum bs s).1 < 0 ∨ most < unI (rdNum bs s).1 then (0, s.1, 7) else (unI (rdNum bs s).1, (rdNum bs s).2)
/-- So many keys. -/
def rdKs (bs : List Int) (s : Nat × Int) : Nat → List (Int × Int) × Nat × Int
  | 0 => ([], s)
  | j + 1 => ((rdKs bs s j).1 ++ [(unI (rdNum bs (rdKs bs s j).2).1, ((rdNum bs (rdNum bs (rdKs bs s j).2).2).1 : Int))], (rdNum bs (rdNum bs (rdKs bs s j).2).2).2)
def isSec (x : Int) : Bool := decide (1 ≤ x ∧ x ≤ 2305843009213693949)
/-- The last number, and whether all is right so far. -/
def goodL (a : Int) (ks : List (Int × Int)) : Int × Bool := ks.foldl (fun q p => (p.1, q.2 && decide (q.1 < p.1) && decide (p.1 < a) && isSec p.2)) (-1, true)
theorem goodL_snoc (a : Int) (ks : List (Int × Int)) (p : Int × Int) : goodL a (ks ++ [p]) = (p.1, (goodL a ks).2 && decide ((goodL a ks).1 < p.1) && decide (p.1 < a) && isSec p.2) := by
  unfold goodL; rw [List.foldl_append]; rfl
structure GoodK (a : Int) (ks : List (Int × Int)) : Prop where
  rise : ks.Pairwise fun p q => p.1 < q.1
  low : ∀ p ∈ ks, 0 ≤ p.1 ∧ p.1 < a
  val : ∀ p ∈ ks, 1 ≤ p.2 ∧ p.2 ≤ 2305843009213693949
theorem snoc_ind {α : Type} {P : List α → Prop} (h0 : P []) (h1 : ∀ l x, P l → P (l ++ [x])) (l : List α) : P l := by
  have : ∀ r : List α, P r.reverse := fun r => by
    induction r with
    | nil => exact h0
    | cons x r ih => rw [List.reverse_cons]; exact h1 _ _ ih
  have := this l.reverse
  rwa [List.reverse_reverse] at this
theorem goodL_iff (a : Int) (ks : List (Int × Int)) : ((goodL a ks).2 = true ↔ GoodK a ks) ∧ (GoodK a ks → -1 ≤ (goodL a ks).1 ∧ ∀ p ∈ ks, p.1 ≤ (goodL a ks).1) ∧ ((goodL a ks).1 = -1 ∨ ∃ p ∈ ks, p.1 = (goodL a ks).1) := by
  induction ks using snoc_ind with
  | h0 => exact ⟨⟨fun _ => ⟨List.Pairwise.nil, fun _ h => (by cases h), fun _ h => (by cases h)⟩, fun _ => rfl⟩, fun _ => ⟨Int.le_refl _, fun _ h => by cases h⟩, .inl rfl⟩
  | h1 ks p ih =>
    obtain ⟨h1, h2, h3⟩ := ih
    rw [goodL_snoc]
    dsimp only
    have hG : GoodK a (ks ++ [p]) ↔ (GoodK a ks ∧ (goodL a ks).1 < p.1 ∧ p.1 < a ∧ isSec p.2 = true) := by
      constructor
      · intro g
        have hr := List.pairwise_append.1 g.rise
        have gk : GoodK a ks := ⟨hr.1, fun q hq => g.low q (List.mem_append_left _ hq), fun q hq => g.val q (List.mem_append_left _ hq)⟩
        have hp := g.low p (by simp)
        have hv := g.val p (by simp)
        refine ⟨gk, ?_, hp.2, by unfold isSec; exact decide_eq_true hv⟩
        rcases h3 with h3 | ⟨q, hq, h3⟩
        · omega
        · have := hr.2.2 q hq p (by simp); omega
      · rintro ⟨g, h4, h5, h6⟩
        obtain ⟨h7, h8⟩ := h2 g
        refine ⟨List.pairwise_append.2 ⟨g.rise, List.pairwise_singleton _ _, fun q hq p' hp => ?_⟩, fun q hq => ?_, fun q hq => ?_⟩
        · rw [List.mem_singleton] at hp; subst hp
          have := h8 q hq; omega
        · rcases List.mem_append.1 hq with hq | hq
          · exact g.low q hq
          · rw [List.mem_singleton] at hq; subst hq; omega
        · rcases List.mem_append.1 hq with hq | hq
          · exact g.val q hq
          · rw [List.mem_singleton] at hq; subst hq; exact of_decide_eq_true h6
    refine ⟨?_, fun g => ?_, .inr ⟨p, by simp, rfl⟩⟩
    · rw [hG, ← h1]
      simp only [Bool.and_eq_true, decide_eq_true_eq, and_assoc]
    · obtain ⟨g1, g2, g3, g4⟩ := hG.1 g
      obtain ⟨h7, h8⟩ := h2 g1
      refine ⟨by omega, fun q hq => ?_⟩
      rcases List.mem_append.1 hq with hq | hq
      · have := h8 q hq; omega
      · rw [List.mem_singleton] at hq; subst hq; exact Int.le_refl _
end Go.Proofs.Ytcnhgkgabddjmaa
