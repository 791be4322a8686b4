/-
  Linear equations over the field, solved column by column. Plain Lean.
-/
import Derived.Test.YtelnhpcehmdffaaGa
namespace Go.Proofs.Ytelnhpcehmdffaa

theorem sumF_add (f g : Nat → F) : ∀ n, sumF (fun i => f i + g i) n = sumF f n + sumF g n
  | 0 => by rw [sumF, sumF, sumF, add_zero']
  | n + 1 => by rw [sumF, sumF, sumF, sumF_add f g n]; grind
theorem sumF_mul (f : Nat → F) (c : F) : ∀ n, sumF (fun i => f i * c) n = sumF f n * c
  | 0 => by rw [sumF, sumF, zero_mul']
  | n + 1 => by rw [sumF, sumF, sumF_mul f c n]; grind
/-- A row's sum at an answer. -/
def dot (n : Nat) (r l : Nat → F) : F := sumF (fun i => r i * l i) n
theorem dot_sub (n : Nat) (r s l : Nat → F) (t : F) : dot n (fun j => r j - t * s j) l = dot n r l - t * dot n s l := by
  unfold dot
  have e : sumF (fun i => (r i - t * s i) * l i) n = sumF (fun i => r i * l i + (s i * l i) * (-t)) n := sumF_congr n fun i _ => by grind
  rw [e, sumF_add, sumF_mul]; grind
theorem dot_mul (n : Nat) (r l : Nat → F) (t : F) : dot n (fun j => r j * t) l = dot n r l * t := by
  unfold dot
  have e : sumF (fun i => r i * t * l i) n = sumF (fun i => (r i * l i) * t) n := sumF_congr n fun i _ => by grind
  rw [e, sumF_mul]
theorem dot_zero (n : Nat) (r : Nat → F) : dot n r (fun _ => 0) = 0 := sumF_zero _ (fun i => by grind) n
theorem dot_upd (n : Nat) (r l : Nat → F) (c : Nat) (v : F) (hc : c < n) (h0 : l c = 0) : dot n r (Pol.upd l c v) = dot n r l + r c * v := by
  unfold dot
  induction n with
  | zero => omega
  | succ n ih =>
    rw [sumF, sumF]
    by_cases h : c = n
    · subst h
      have e : sumF (fun i => r i * Pol.upd l c v i) c = sumF (fun i => r i * l i) c := sumF_congr c fun i hi => by unfold Pol.upd; rw [if_neg (by omega)]
      rw [e]
      unfold Pol.upd
      rw [if_pos rfl, h0]; grind
    · rw [ih (by omega)]
      have e : Pol.upd l c v n = l n := by unfold Pol.upd; rw [if_neg (fun e => h e.symm)]
      rw [e]; grind
/-- An answer to all of some rows. -/
def Sol (n R : Nat) (M : Nat → Nat → F) (l : Nat → F) : Prop := ∀ i, i < R → dot n (M i) l = M i n
/-- Two rows change places. -/
def swapM (M : Nat → Nat → F) (r t : Nat) : Nat → Nat → F := fun i => if i = t then M r else if i = r then M t else M i
theorem Sol.swap {n R : Nat} {M : Nat → Nat → F} {r t : Nat} (hr : r < R) (ht : t < R) (l : Nat → F) : Sol n R (swapM M r t) l ↔ Sol n R M l := by
  constructor
  · intro h i hi
    by_cases h1 : i = r
    · subst h1
      have := h t ht
      unfold swapM at this
      rwa [if_pos rfl] at this
    · by_cases h2 : i = t
      · subst h2
        have := h r hr
        unfold swapM at this
        rw [if_neg (fun e => h1 e.symm), if_pos rfl] at this
        exact this
      · have := h i hi
        unfold swapM at this
        rwa [if_neg h2, if_neg h1] at this
  · intro h i hi
    unfold swapM
    by_cases h2 : i = t
    · rw [if_pos h2]; exact h r hr
    · rw [if_neg h2]
      by_cases h1 : i = r
      · rw [if_pos h1]; exact h t ht
      · rw [if_neg h1]; exact h i hi
/-- A row times a number. -/
def scaleM (M : Nat → Nat → F) (t : Nat) (c : F) : Nat → Nat → F := fun i => if i = t then fun j => M t j * c else M i
theorem Sol.scale {n R : Nat} {M : Nat → Nat → F} {t : Nat} {c : F} (ht : t < R) (hc : c ≠ 0) (l : Nat → F) : Sol n R (scaleM M t c) l ↔ Sol n R M l := by
  have key : dot n (fun j => M t j * c) l = M t n * c ↔ dot n (M t) l = M t n := by
    rw [dot_mul]
    refine ⟨fun h => ?_, fun h => by rw [h]⟩
    have h1 := mul_inv c hc
    have h2 : (dot n (M t) l * c) * inv c = (M t n * c) * inv c := by rw [h]
    generalize dot n (M t) l = x at *
    grind
  constructor
  · intro h i hi
    by_cases h1 : i = t
    · subst h1
      have := h i hi
      unfold scaleM at this
      rw [if_pos rfl] at this
      exact key.1 this
    · have := h i hi
      unfold scaleM at this
      rwa [if_neg h1] at this
  · intro h i hi
    unfold scaleM
    by_cases h1 : i = t
    · subst h1; rw [if_pos rfl]; exact key.2 (h i hi)
    · rw [if_neg h1]; exact h i hi
/-- So many times a row is taken off the first k of the others. -/
def lessM (M : Nat → Nat → F) (t c k : Nat) : Nat → Nat → F := fun i => if i < k ∧ i ≠ t then fun j => M i j - M i c * M t j else M i
theorem lessM_zero (M : Nat → Nat → F) (t c : Nat) : lessM M t c 0 = M := by
  funext i; unfold lessM; rw [if_neg (by omega)]
theorem Sol.less {n R : Nat} {M : Nat → Nat → F} {t c : Nat} (ht : t < R) (l : Nat → F) : Sol n R (lessM M t c R) l ↔ Sol n R M l := by
  have et : lessM M t c R t = M t := by unfold lessM; rw [if_neg (fun h => h.2 rfl)]
  constructor
  · intro h i hi
    have h0 : dot n (M t) l = M t n := by have := h t ht; rwa [et] at this
    by_cases h1 : i = t
    · subst h1; exact h0
    · have := h i hi
      unfold lessM at this
      rw [if_pos ⟨hi, h1⟩, dot_sub, h0] at this
      grind
  · intro h i hi
    unfold lessM
    by_cases h1 : i < R ∧ i ≠ t
    · rw [if_pos h1, dot_sub, h t ht, h i hi]
    · rw [if_neg h1]; exact h i hi
/-- The state of the elimination: c columns are through; in which columns the first rows begin. -/
structure GSt (n R : Nat) (M0 M : Nat → Nat → F) (c : Nat) (at_ : List Nat) : Prop where
  sol : ∀ l, Sol n R M0 l ↔ Sol n R M l
  len : at_.length ≤ R
  few : at_.length ≤ c
  lt : ∀ r, r < at_.length → at_.getD r 0 < c
  one : ∀ r, r < at_.length → M r (at_.getD r 0) = 1
  zero : ∀ r i, r < at_.length → i < R → i ≠ r → M i (at_.getD r 0) = 0
  low : ∀ i j, at_.length ≤ i → i < R → j < c → M i j = 0
theorem GSt.start (n R : Nat) (M : Nat → Nat → F) : GSt n R M M 0 [] where
  sol := fun _ => Iff.rfl
  len := Nat.zero_le _
  few := Nat.le_refl _
  lt := fun r h => absurd h (by simp)
  one := fun r h => absurd h (by simp)
  zero := fun r i h => absurd h (by simp)
  low := fun i j _ _ h => absurd h (by omega)
/-- No row begins in a column. -/
theorem GSt.skip {n R c : Nat} {M0 M : Nat → Nat → F} {at_ : List Nat} (h : GSt n R M0 M c at_) (h0 : ∀ r, at_.length ≤ r → r < R → M r c = 0) : GSt n R M0 M (c + 1) at_ where
  sol := h.sol
  len := h.len
  few := Nat.le_succ_of_le h.few
  lt := fun r hr => Nat.lt_succ_of_lt (h.lt r hr)
  one := h.one
  zero := h.zero
  low := fun i j hi hR hj => by
    by_cases e : j = c
    · rw [e]; exact h0 i hi hR
    · exact h.low i j hi hR (by omega)
theorem getD_snoc {l : List Nat} {a r : Nat} : (l ++ [a]).getD r 0 = if r < l.length then l.getD r 0 else if r = l.length then a else 0 := by
  simp only [List.getD_eq_getElem?_getD]
  by_cases h : r < l.length
  · rw [if_pos h, List.getElem?_append_left h]
  · rw [if_neg h, List.getElem?_append_right (by omega)]
    by_cases e : r = l.length
    · rw [if_pos e, e]; simp
    · rw [if_neg e]
      have : 1 ≤ r - l.length := by omega
      rw [List.getElem?_eq_none (by simpa using this)]; rfl
/-- A row begins in a column: it changes places, is made to begin with 1, and is taken off the others. -/
def pivM (M : Nat → Nat → F) (R r t c : Nat) : Nat → Nat → F := lessM (scaleM (swapM M r t) t (inv (M r c))) t c R
theorem GSt.piv {n R c r : Nat} {M0 M : Nat → Nat → F} {at_ : List Nat} (h : GSt n R M0 M c at_) (hr0 : at_.length ≤ r) (hr : r < R) (hne : M r c ≠ 0) : GSt n R M0 (pivM M R r at_.length c) (c + 1) (at_ ++ [c]) := by
  obtain ⟨t, ht⟩ : ∃ t, t = at_.length := ⟨_, rfl⟩
  have htR : t < R := by omega
  rw [← ht]
  have hinv := mul_inv _ hne
  -- the row that begins, and the others
  have rt : ∀ j, pivM M R r t c t j = M r j * inv (M r c) := fun j => by
    unfold pivM lessM
    rw [if_neg (fun h => h.2 rfl)]
    unfold scaleM swapM
    rw [if_pos rfl, if_pos rfl]
  have rc : pivM M R r t c t c = 1 := by rw [rt]; exact hinv
  have ro : ∀ i j, i < R → i ≠ t → pivM M R r t c i j = swapM M r t i j - swapM M r t i c * (M r j * inv (M r c)) := fun i j hi hne' => by
    unfold pivM lessM
    rw [if_pos ⟨hi, hne'⟩]
    unfold scaleM
    rw [if_neg hne', if_pos rfl]
    show swapM M r t i j - swapM M r t i c * (swapM M r t t j * inv (M r c)) = _
    have : swapM M r t t j = M r j := by unfold swapM; rw [if_pos rfl]
    rw [this]
  -- a row of the swapped ones is one of those from t on, or stands where it stood
  have sw : ∀ i, i ≠ t → (swapM M r t i = M i ∧ i ≠ r) ∨ (swapM M r t i = M t ∧ i = r) := fun i hi => by
    unfold swapM
    rw [if_neg hi]
    by_cases e : i = r
    · right; rw [if_pos e]; exact ⟨rfl, e⟩
    · left; rw [if_neg e]; exact ⟨rfl, e⟩
  refine ⟨fun l => ?_, by rw [List.length_append]; simp; omega, by rw [List.length_append]; have := h.few; simp; omega, fun q hq => ?_, fun q hq => ?_, fun q i hq hi hiq => ?_, fun i j hi hR hj => ?_⟩
  · rw [h.sol l]
    unfold pivM
    rw [Sol.less htR, Sol.scale htR (inv_ne _ hne), Sol.swap hr htR]
  · rw [List.length_append] at hq
    rw [getD_snoc]
    split
    · rename_i hq2; have := h.lt q hq2; omega
    · split <;> omega
  · rw [List.length_append] at hq
    rw [getD_snoc]
    by_cases hq2 : q < at_.length
    · rw [if_pos hq2, ro q _ (by omega) (by omega)]
      have hz := h.zero q r hq2 hr (by omega)
      rw [hz]
      rcases sw q (by omega) with ⟨e, _⟩ | ⟨_, e⟩
      · rw [e, h.one q hq2, zero_mul', mul_zero', Pol.sub_zero']
      · omega
    · have hq3 : q = at_.length := by simp at hq; omega
      rw [if_neg hq2, if_pos hq3, hq3, ← ht]; exact rc
  · rw [List.length_append] at hq
    rw [getD_snoc]
    by_cases hq2 : q < at_.length
    · rw [if_pos hq2]
      have hz := h.zero q r hq2 hr (by omega)
      by_cases hit : i = t
      · rw [hit, rt, hz, zero_mul']
      · rw [ro i _ hi hit, hz, zero_mul', mul_zero']
        rcases sw i hit with ⟨e, _⟩ | ⟨e, _⟩
        · rw [e, h.zero q i hq2 hi hiq, Pol.sub_zero']
        · rw [e, h.zero q t hq2 htR (by omega), Pol.sub_zero']
    · have hq3 : q = at_.length := by simp at hq; omega
      rw [if_neg hq2, if_pos hq3]
      have hit : i ≠ t := by omega
      rw [ro i _ hi hit, hinv]; grind
  · rw [List.length_append] at hi
    simp at hi
    have hit : i ≠ t := by omega
    rw [ro i _ hR hit]
    by_cases e : j = c
    · rw [e, hinv]; grind
    · have hz := h.low r j hr0 hr (by omega)
      rw [hz, zero_mul', mul_zero']
      rcases sw i hit with ⟨e2, _⟩ | ⟨e2, _⟩
      · rw [e2, h.low i j (by omega) hR (by omega), Pol.sub_zero']
      · rw [e2, h.low t j (by omega) htR (by omega), Pol.sub_zero']
/-- The answer, of the first k rows. -/
def outF (M : Nat → Nat → F) (n : Nat) (at_ : List Nat) : Nat → Nat → F
  | 0 => fun _ => 0
  | k + 1 => Pol.upd (outF M n at_ k) (at_.getD k 0) (M k n)
theorem GSt.inj {n R c : Nat} {M0 M : Nat → Nat → F} {at_ : List Nat} (h : GSt n R M0 M c at_) {q r : Nat} (hq : q < at_.length) (hr : r < at_.length) (hne : q ≠ r) : at_.getD q 0 ≠ at_.getD r 0 := fun e => by
  have h1 := h.one q hq
  have h2 := h.zero r q hr (Nat.lt_of_lt_of_le hq h.len) hne
  rw [e, h2] at h1
  exact one_ne h1.symm
theorem GSt.out_new {n R c : Nat} {M0 M : Nat → Nat → F} {at_ : List Nat} (h : GSt n R M0 M c at_) {r : Nat} (hr : r < at_.length) : ∀ k, k ≤ r → outF M n at_ k (at_.getD r 0) = 0
  | 0, _ => rfl
  | k + 1, hk => by
    show Pol.upd (outF M n at_ k) (at_.getD k 0) (M k n) (at_.getD r 0) = 0
    unfold Pol.upd
    rw [if_neg (h.inj hr (by omega) (by omega))]
    exact h.out_new hr k (by omega)
theorem GSt.out_dot {n R : Nat} {M0 M : Nat → Nat → F} {at_ : List Nat} (h : GSt n R M0 M n at_) {i : Nat} (hi : i < R) : ∀ k, k ≤ at_.length → dot n (M i) (outF M n at_ k) = if i < k then M i n else 0
  | 0, _ => by rw [if_neg (by omega)]; exact dot_zero n (M i)
  | k + 1, hk => by
    show dot n (M i) (Pol.upd (outF M n at_ k) (at_.getD k 0) (M k n)) = _
    rw [dot_upd n (M i) _ _ _ (h.lt k (by omega)) (h.out_new (by omega) k (Nat.le_refl _)), h.out_dot hi k (by omega)]
    by_cases e : i = k
    · subst e
      rw [h.one i (by omega), if_neg (by omega), if_pos (by omega)]; grind
    · rw [h.zero k i (by omega) hi e]
      by_cases h2 : i < k
      · rw [if_pos h2, if_pos (by omega)]; grind
      · rw [if_neg h2, if_neg (by omega), zero_mul', add_zero']
/-- The answer answers. -/
theorem GSt.answer {n R : Nat} {M0 M : Nat → Nat → F} {at_ : List Nat} (h : GSt n R M0 M n at_) (h0 : ∀ i, at_.length ≤ i → i < R → M i n = 0) : Sol n R M0 (outF M n at_ at_.length) :=
  (h.sol _).2 fun i hi => by
    rw [h.out_dot hi _ (Nat.le_refl _)]
    split
    · rfl
    · exact (h0 i (by omega) hi).symm
/-- There is none. -/
theorem GSt.none {n R : Nat} {M0 M : Nat → Nat → F} {at_ : List Nat} (h : GSt n R M0 M n at_) {i : Nat} (h1 : at_.length ≤ i) (h2 : i < R) (h3 : M i n ≠ 0) (l : Nat → F) : ¬ Sol n R M0 l := fun hs => by
  have := (h.sol l).1 hs i h2
  have e : dot n (M i) l = 0 := by
    unfold dot
    have e1 : sumF (fun j => M i j * l j) n = sumF (fun _ => 0) n := sumF_congr n fun j hj => by rw [h.low i j h1 h2 hj, zero_mul']
    rw [e1]; exact sumF_zero _ (fun _ => rfl) n
  rw [e] at this
  exact h3 this.symm
end Go.Proofs.Ytelnhpcehmdffaa
