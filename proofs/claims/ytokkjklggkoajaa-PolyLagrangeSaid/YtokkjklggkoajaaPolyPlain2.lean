/-
  Polynomials: values of sums and products; how many roots; what has given values. Plain Lean.
-/
import Derived.Test.YtokkjklggkoajaaPolyPlain
namespace Go.Proofs.Ytokkjklggkoajaa

theorem ev_trimF (p : List F) (x : F) : ev (trimF p) x = ev p x := by
  induction p with
  | nil => rfl
  | cons a p ih =>
    rw [trimF]
    by_cases h : trimF p = [] ∧ a = 0
    · rw [if_pos h, ev, ev, ← ih, h.1, h.2, ev, mul_zero', add_zero']
    · rw [if_neg h, ev, ev, ih]
theorem ev_addL (p q : List F) (x : F) : ev (addL p q) x = ev p x + ev q x := by
  induction p generalizing q with
  | nil => rw [addL, ev, zero_add']
  | cons a p ih => cases q with
    | nil => rw [addL, ev]; show _ = _ + 0; rw [add_zero', ev]
    | cons b q => rw [addL, ev, ev, ev, ih]; grind
theorem ev_smul (a : F) (q : List F) (x : F) : ev (q.map (a * ·)) x = a * ev q x := by
  induction q with
  | nil => rw [List.map_nil, ev, mul_zero']
  | cons b q ih => rw [List.map_cons, ev, ev, ih]; grind
theorem ev_mulL (p q : List F) (x : F) : ev (mulL p q) x = ev p x * ev q x := by
  induction p with
  | nil => rw [mulL, ev, zero_mul']
  | cons a p ih => rw [mulL, ev_addL, ev_smul, ev, ev, ih]; grind

/-! ### Roots -/
/-- Division by x less r, from the top. -/
def syn (r : F) : List F → List F
  | [] => []
  | [_] => []
  | _ :: b :: p => ev (b :: p) r :: syn r (b :: p)
theorem syn_length (r : F) (p : List F) : (syn r p).length = p.length - 1 := by
  induction p with
  | nil => rfl
  | cons a p ih => cases p with
    | nil => rfl
    | cons b p => rw [syn, List.length_cons, ih]; simp
theorem syn_ev (r : F) (p : List F) (x : F) : ev p x = (x - r) * ev (syn r p) x + ev p r := by
  induction p with
  | nil => simp only [syn, ev, mul_zero', add_zero']
  | cons a p ih => cases p with
    | nil => simp only [syn, ev, mul_zero', add_zero', zero_add']
    | cons b p =>
      have e1 : ev (a :: b :: p) x = a + x * ev (b :: p) x := rfl
      have e2 : ev (a :: b :: p) r = a + r * ev (b :: p) r := rfl
      rw [syn, e1, e2, ih]
      show _ = (x - r) * (ev (b :: p) r + x * ev (syn r (b :: p)) x) + _
      grind

theorem add_neg_one (x : F) : x + -1 * x = 0 := by grind
theorem sub_ne {x y : F} (h : x ≠ y) : x - y ≠ 0 := fun e => h (by grind)

/-- No more roots than the degree: what is 0 at as many unlike numbers as it has coefficients is 0 everywhere. -/
theorem roots_zero : ∀ (n : Nat) (p : List F) (l : List F), p.length ≤ n → l.Nodup → n ≤ l.length → (∀ x ∈ l, ev p x = 0) → ∀ x, ev p x = 0 := by
  intro n
  induction n with
  | zero =>
    intro p l hp _ _ _ x
    rw [List.eq_nil_of_length_eq_zero (l := p) (by omega)]
    rfl
  | succ n ih =>
    intro p l hp hd hl hz x
    cases l with
    | nil => simp at hl
    | cons r l =>
      rw [List.nodup_cons] at hd
      have hr := hz r (by simp)
      have h1 : ∀ y, ev p y = (y - r) * ev (syn r p) y := fun y => by rw [syn_ev r p y, hr, add_zero']
      have h2 := ih (syn r p) l (by rw [syn_length]; omega) hd.2 (by simpa using hl) (fun y hy => by
        have hy0 := hz y (by simp [hy])
        rw [h1] at hy0
        have hne : y ≠ r := fun e => hd.1 (e ▸ hy)
        rcases (mul_eq_zero' _ _).1 hy0 with h | h
        · exact absurd h (sub_ne hne)
        · exact h)
      rw [h1, h2, mul_zero']

/-- All the field's numbers. -/
theorem all_nodup : (List.finRange Q).Nodup := List.nodup_finRange Q

/-- .. and if it is 0 everywhere, and is not longer than the field is great, all coefficients are 0. -/
theorem zero_coef : ∀ (n : Nat) (p : List F) (l : List F), p.length ≤ n → l.Nodup → n ≤ l.length → (∀ x ∈ l, ev p x = 0) → trimF p = [] := by
  intro n
  induction n with
  | zero => intro p l hp _ _ _; rw [List.eq_nil_of_length_eq_zero (l := p) (by omega)]; rfl
  | succ n ih =>
    intro p l hp hd hl hz
    cases p with
    | nil => rfl
    | cons a p =>
      have h0 : a = 0 := by
        have := roots_zero (n + 1) (a :: p) l hp hd hl hz 0
        rw [ev] at this; grind
      cases hl' : l with
      | nil => rw [hl'] at hl; simp at hl
      | cons r l' =>
        -- 0 taken out of the numbers
        have hz' : ∀ x ∈ l.erase 0, ev p x = 0 := fun x hx => by
          have hx1 := List.mem_of_mem_erase hx
          have hx2 : x ≠ 0 := fun e => by subst e; exact (hd.not_mem_erase hx)
          have := hz x hx1
          rw [ev, h0, zero_add'] at this
          exact ((mul_eq_zero' _ _).1 this).resolve_left hx2
        have := ih p (l.erase 0) (by simpa using hp) (hd.erase 0) (by rw [List.length_erase]; split <;> omega) hz'
        rw [trimF, this, h0]; simp

/-- Two lists without noughts at the end that agree at as many unlike numbers as either is long are the same. -/
theorem trimF_zero_sub (p q : List F) (h : trimF (addL p (q.map (-1 * ·))) = []) : trimF p = trimF q := by
  induction p generalizing q with
  | nil =>
    rw [addL] at h
    induction q with
    | nil => rfl
    | cons b q ih =>
      rw [List.map_cons, trimF] at h
      split at h
      · rename_i h1
        have hb : b = 0 := by have := h1.2; grind
        have := ih h1.1
        have h2 : trimF q = [] := this.symm
        have h3 : trimF (b :: q) = [] := by rw [trimF, h2, hb]; simp
        rw [h3]; rfl
      · cases h
  | cons a p ih => cases q with
    | nil => rw [List.map_nil, addL] at h; rw [h]; rfl
    | cons b q =>
      rw [List.map_cons, addL, trimF] at h
      split at h
      · rename_i h1
        have hab : a = b := by have := h1.2; grind
        rw [trimF, trimF, ih q h1.1, hab]
      · cases h
theorem same_of_values (p q : List F) (l : List F) (hp : p.length ≤ l.length) (hq : q.length ≤ l.length) (hd : l.Nodup) (h : ∀ x ∈ l, ev p x = ev q x) : trimF p = trimF q := by
  apply trimF_zero_sub
  refine zero_coef l.length _ l ?_ hd (Nat.le_refl _) ?_
  · rw [addL_length, List.length_map]; omega
  · intro x hx
    rw [ev_addL, ev_smul, h x hx, add_neg_one]

/-! ### What has given values -/
/-- fs is what the document's From tells of places and values: nothing if a place stands twice; else the least polynomial that has the values. -/
structure FromOk (xs ys fs : List F) : Prop where
  no : ¬ xs.Nodup → fs = []
  trim : xs.Nodup → trimF fs = fs
  len : xs.Nodup → fs.length ≤ xs.length
  val : xs.Nodup → ∀ i, i < xs.length → ev fs (coef xs i) = coef ys i
theorem FromOk.same {xs ys fs gs : List F} (h : FromOk xs ys fs) (k : FromOk xs ys gs) : fs = gs := by
  by_cases hd : xs.Nodup
  · rw [← h.trim hd, ← k.trim hd]
    refine same_of_values fs gs xs (h.len hd) (k.len hd) hd fun x hx => ?_
    obtain ⟨i, hi, rfl⟩ := List.getElem_of_mem hx
    rw [← coef_lt hi, h.val hd i hi, k.val hd i hi]
  · rw [h.no hd, k.no hd]

/-- Newton's state after i places, all unlike. -/
structure NewtonOk (xs ys : List F) (i : Nat) (S A : List F) : Prop where
  dist : (xs.take i).Nodup
  strim : trimF S = S
  atrim : trimF A = A
  slen : S.length ≤ i
  alen : A.length ≤ i + 1
  sval : ∀ k, k < i → ev S (coef xs k) = coef ys k
  azero : ∀ k, k < i → ev A (coef xs k) = 0
  ane : ∀ z, (∀ k, k < i → z ≠ coef xs k) → ev A z ≠ 0
theorem newton_start (xs ys : List F) : NewtonOk xs ys 0 [] [1] where
  dist := by simp
  strim := rfl
  atrim := trimF_snoc [] 1 one_ne
  slen := Nat.le_refl _
  alen := Nat.le_refl _
  sval := fun k hk => absurd hk (by omega)
  azero := fun k hk => absurd hk (by omega)
  ane := fun z _ => by rw [ev, ev, mul_zero', add_zero']; exact one_ne
theorem nodup_take_succ {l : List F} {i : Nat} (hi : i < l.length) : (l.take (i + 1)).Nodup ↔ (l.take i).Nodup ∧ ∀ k, k < i → coef l i ≠ coef l k := by
  rw [List.take_succ_eq_append_getElem hi, List.nodup_append]
  constructor
  · rintro ⟨h1, _, h3⟩
    refine ⟨h1, fun k hk e => ?_⟩
    refine h3 (coef l k) ?_ (coef l i) (by rw [coef_lt hi]; simp) e.symm
    rw [coef_lt (by omega)]
    exact List.mem_take_iff_getElem.2 ⟨k, by omega, rfl⟩
  · rintro ⟨h1, h2⟩
    refine ⟨h1, by simp, fun a ha b hb e => ?_⟩
    obtain ⟨k, hk, hk2⟩ := List.mem_take_iff_getElem.1 ha
    rw [List.mem_singleton] at hb
    refine h2 k (by omega) ?_
    rw [coef_lt hi, coef_lt (by omega), hk2, e, hb]
theorem trimF_trimF (p : List F) : trimF (trimF p) = trimF p := by
  induction p with
  | nil => rfl
  | cons a p ih =>
    rw [trimF]
    by_cases h : trimF p = [] ∧ a = 0
    · rw [if_pos h]; rfl
    · rw [if_neg h, trimF, ih, if_neg h]
theorem newton_dup {xs ys : List F} {i : Nat} {S A : List F} (h : NewtonOk xs ys i S A) (hi : i < xs.length) (h0 : ev A (coef xs i) = 0) : ¬ xs.Nodup := by
  intro hd
  have hd2 : (xs.take (i + 1)).Nodup := hd.sublist (List.take_sublist _ _)
  exact h.ane _ ((nodup_take_succ hi).1 hd2).2 h0
theorem newton_step {xs ys : List F} {i : Nat} {S A : List F} (h : NewtonOk xs ys i S A) (hi : i < xs.length) (h0 : ev A (coef xs i) ≠ 0) :
    NewtonOk xs ys (i + 1) (trimF (addL S (trimF (mulL (trimF A) (trimF [(coef ys i - ev S (coef xs i)) * inv (ev A (coef xs i))])))))
      (trimF (mulL (trimF A) (trimF [- coef xs i, 1]))) where
  dist := (nodup_take_succ hi).2 ⟨h.dist, fun k hk e => h0 (by rw [e]; exact h.azero k hk)⟩
  strim := trimF_trimF _
  atrim := trimF_trimF _
  slen := by
    refine Nat.le_trans (trimF_length _) ?_
    rw [addL_length]
    refine Nat.max_le.2 ⟨by have := h.slen; omega, Nat.le_trans (trimF_length _) ?_⟩
    by_cases hA : trimF A = []
    · rw [hA, mulL]; simp
    by_cases hC : trimF [(coef ys i - ev S (coef xs i)) * inv (ev A (coef xs i))] = []
    · rw [hC]
      have := trimF_length A
      have := h.alen
      have e : ∀ p : List F, (mulL p []).length ≤ p.length := by
        intro p; induction p with
        | nil => simp [mulL]
        | cons a p ih => rw [mulL, addL_length]; simp; omega
      have := e (trimF A)
      omega
    · rw [mulL_length _ _ hA hC]
      have := trimF_length A
      have := h.alen
      have := trimF_length [(coef ys i - ev S (coef xs i)) * inv (ev A (coef xs i))]
      simp only [List.length_cons, List.length_nil] at this
      omega
  alen := by
    refine Nat.le_trans (trimF_length _) ?_
    by_cases hA : trimF A = []
    · rw [hA, mulL]; simp
    · have e : trimF [- coef xs i, 1] = [- coef xs i, 1] := trimF_snoc [- coef xs i] 1 one_ne
      rw [e, mulL_length _ _ hA (by simp)]
      have := trimF_length A
      have := h.alen
      simp only [List.length_cons, List.length_nil]
      omega
  sval := fun k hk => by
    rw [ev_trimF, ev_addL, ev_trimF, ev_mulL, ev_trimF, ev_trimF]
    by_cases hk2 : k < i
    · rw [h.sval k hk2, h.azero k hk2, zero_mul', add_zero']
    · obtain rfl : k = i := by omega
      have := mul_inv _ h0
      rw [ev, ev, mul_zero', add_zero']
      grind
  azero := fun k hk => by
    rw [ev_trimF, ev_mulL, ev_trimF, ev_trimF]
    by_cases hk2 : k < i
    · rw [h.azero k hk2, zero_mul']
    · obtain rfl : k = i := by omega
      have : ev [- coef xs k, 1] (coef xs k) = 0 := by
        show - coef xs k + coef xs k * (1 + coef xs k * 0) = 0
        grind
      rw [this, mul_zero']
  ane := fun z hz => by
    rw [ev_trimF, ev_mulL, ev_trimF, ev_trimF]
    refine mul_ne _ _ (h.ane z fun k hk => hz k (by omega)) ?_
    have : ev [- coef xs i, 1] z = z - coef xs i := by
      show - coef xs i + z * (1 + z * 0) = _
      grind
    rw [this]
    exact sub_ne (hz i (by omega))
theorem newton_end {xs ys : List F} {S A : List F} (h : NewtonOk xs ys xs.length S A) : FromOk xs ys S where
  no := fun hn => absurd (by have := h.dist; rwa [List.take_of_length_le (Nat.le_refl _)] at this) hn
  trim := fun _ => h.strim
  len := fun _ => h.slen
  val := fun _ => h.sval
theorem from_dup {xs ys : List F} (h : ¬ xs.Nodup) : FromOk xs ys [] := ⟨fun _ => rfl, fun hd => absurd hd h, fun hd => absurd hd h, fun hd => absurd hd h⟩

/-! ### What is trimmed hangs on the coefficients alone -/
theorem coef_trimF (p : List F) (i : Nat) : coef (trimF p) i = coef p i := by
  induction p generalizing i with
  | nil => rfl
  | cons a p ih =>
    rw [trimF]
    by_cases h : trimF p = [] ∧ a = 0
    · rw [if_pos h, coef_nil]
      cases i with
      | zero => rw [coef_zero, h.2]
      | succ i => rw [coef_succ, ← ih, h.1, coef_nil]
    · rw [if_neg h]
      cases i with
      | zero => rw [coef_zero, coef_zero]
      | succ i => rw [coef_succ, coef_succ, ih]
theorem trimF_none {p : List F} (h : ∀ i, coef p i = 0) : trimF p = [] := by
  induction p with
  | nil => rfl
  | cons a p ih =>
    have h0 := h 0
    rw [coef_zero] at h0
    rw [trimF, ih (fun i => by have := h (i + 1); rwa [coef_succ] at this), h0]; simp
theorem trimF_congr {p q : List F} (h : ∀ i, coef p i = coef q i) : trimF p = trimF q := by
  induction p generalizing q with
  | nil => rw [trimF_none (p := q) (fun i => by rw [← h, coef_nil])]; rfl
  | cons a p ih => cases q with
    | nil => rw [trimF_none (p := a :: p) (fun i => by rw [h, coef_nil])]; rfl
    | cons b q =>
      have h0 := h 0
      rw [coef_zero, coef_zero] at h0
      rw [trimF, trimF, ih (q := q) (fun i => by have := h (i + 1); rwa [coef_succ, coef_succ] at this), h0]

/-- The sum of the first n. -/
def sumF (f : Nat → F) : Nat → F
  | 0 => 0
  | n + 1 => sumF f n + f n
theorem sumF_first (f : Nat → F) (n : Nat) : sumF f (n + 1) = f 0 + sumF (fun i => f (i + 1)) n := by
  induction n with
  | zero => rw [sumF, sumF, sumF, zero_add', add_zero']
  | succ n ih => rw [sumF, ih, sumF]; grind
theorem sumF_zero (f : Nat → F) (h : ∀ i, f i = 0) (n : Nat) : sumF f n = 0 := by
  induction n with
  | zero => rfl
  | succ n ih => rw [sumF, ih, h, add_zero']
theorem sumF_congr {f g : Nat → F} (n : Nat) (h : ∀ i, i < n → f i = g i) : sumF f n = sumF g n := by
  induction n with
  | zero => rfl
  | succ n ih => rw [sumF, sumF, ih (fun i hi => h i (by omega)), h n (by omega)]
theorem coef_mulL_sum (p q : List F) (k : Nat) : coef (mulL p q) k = sumF (fun i => coef p i * coef q (k - i)) (k + 1) := by
  induction p generalizing k with
  | nil => rw [mulL, coef_nil, sumF_zero _ (fun i => by rw [coef_nil, zero_mul'])]
  | cons a p ih =>
    rw [coef_mulL_cons, sumF_first, coef_zero, Nat.sub_zero]
    congr 1
    cases k with
    | zero => rw [coef_zero]; rfl
    | succ k =>
      rw [coef_succ, ih]
      apply sumF_congr
      intro i _
      rw [coef_succ, Nat.add_sub_add_right]
theorem mulL_congr {p q r s : List F} (h : ∀ i, coef p i = coef q i) (k : ∀ i, coef r i = coef s i) (i : Nat) : coef (mulL p r) i = coef (mulL q s) i := by
  rw [coef_mulL_sum, coef_mulL_sum]
  exact sumF_congr _ (fun j _ => by rw [h, k])
/-- Products of what is trimmed. -/
theorem trimF_mul_trim (p q : List F) : trimF (mulL (trimF p) (trimF q)) = trimF (mulL p q) :=
  trimF_congr (mulL_congr (coef_trimF p) (coef_trimF q))
theorem trimF_add_trim (p q : List F) : trimF (addL (trimF p) (trimF q)) = trimF (addL p q) :=
  trimF_congr fun i => by rw [coef_addL, coef_addL, coef_trimF, coef_trimF]
theorem coef_range (n : Nat) (f : Nat → F) (i : Nat) : coef ((List.range n).map f) i = if i < n then f i else 0 := by
  by_cases h : i < n
  · rw [if_pos h, coef_lt (by simpa using h)]; simp
  · rw [if_neg h, coef_ge (by simpa using h)]
theorem addL_range (p q : List F) : (List.range (max p.length q.length)).map (fun i => coef p i + coef q i) = addL p q := by
  apply ext_coef
  · rw [addL_length]; simp
  · intro i
    rw [coef_range, coef_addL]
    by_cases h : i < max p.length q.length
    · rw [if_pos h]
    · rw [if_neg h, coef_ge (p := p) (by omega), coef_ge (p := q) (by omega), add_zero']
theorem mulL_range (p q : List F) : trimF ((List.range (p.length + q.length - 1)).map (fun i => coef (mulL p q) i)) = trimF (mulL p q) := by
  apply trimF_congr
  intro i
  rw [coef_range]
  by_cases h : i < p.length + q.length - 1
  · rw [if_pos h]
  · rw [if_neg h, coef_mulL_sum, sumF_zero]
    intro j
    by_cases hj : j < p.length
    · rw [coef_ge (p := q) (by omega), mul_zero']
    · rw [coef_ge (by omega), zero_mul']
end Go.Proofs.Ytokkjklggkoajaa
