/-
  Numbers sorted by putting each in where it belongs; plain Lean.
-/
import Derived.Test.YtkolilbebkkpdaaDoorRoA
namespace Go.Proofs.YtkolilbebkkpdaaDoor

/-- How many at the front are no greater. -/
def leN (l : List Int) (x : Int) : Nat := (l.takeWhile fun y => decide (y ≤ x)).length
def insR (l : List Int) (x : Int) : List Int := l.take (leN l x) ++ [x] ++ l.drop (leN l x)
theorem leN_le (l : List Int) (x : Int) : leN l x ≤ l.length := (List.takeWhile_prefix _).length_le
theorem insR_perm (l : List Int) (x : Int) : (insR l x).Perm (l ++ [x]) := by
  unfold insR
  refine ((List.Perm.append_left _ (List.perm_append_comm (l₁ := [x]) (l₂ := l.drop (leN l x)))).symm.symm.trans ?_ : (l.take (leN l x) ++ ([x] ++ l.drop (leN l x))).Perm _) |> fun h => by rwa [List.append_assoc]
  rw [← List.append_assoc, List.take_append_drop]
theorem insR_cons_le {a x : Int} (h : a ≤ x) (l : List Int) : insR (a :: l) x = a :: insR l x := by
  unfold insR leN
  simp [h]
theorem insR_cons_gt {a x : Int} (h : ¬ a ≤ x) (l : List Int) : insR (a :: l) x = x :: a :: l := by
  unfold insR leN
  simp [h]
theorem insR_rise (x : Int) : ∀ (l : List Int), l.Pairwise (· ≤ ·) → (insR l x).Pairwise (· ≤ ·) := by
  intro l
  induction l with
  | nil => intro _; simp [insR, leN]
  | cons a l ih =>
    intro h
    obtain ⟨h1, h2⟩ := List.pairwise_cons.1 h
    by_cases ha : a ≤ x
    · rw [insR_cons_le ha]
      refine List.pairwise_cons.2 ⟨fun y hy => ?_, ih h2⟩
      rcases List.mem_append.1 ((insR_perm l x).mem_iff.1 hy) with hy | hy
      · exact h1 y hy
      · rw [List.mem_singleton] at hy; omega
    · rw [insR_cons_gt ha]
      refine List.pairwise_cons.2 ⟨fun y hy => ?_, h⟩
      rcases List.mem_cons.1 hy with rfl | hy
      · omega
      · have := h1 y hy; omega
def sortR (l : List Int) : List Int := l.foldl insR []
theorem sortR_snoc (l : List Int) (x : Int) : sortR (l ++ [x]) = insR (sortR l) x := by unfold sortR; rw [List.foldl_append]; rfl
theorem sortR_both (acc : List Int) : ∀ (l : List Int), acc.Pairwise (· ≤ ·) → (l.foldl insR acc).Pairwise (· ≤ ·) ∧ (l.foldl insR acc).Perm (acc ++ l) := by
  intro l
  induction l generalizing acc with
  | nil => intro h; exact ⟨h, by rw [List.append_nil]; exact List.Perm.refl _⟩
  | cons a l ih =>
    intro h
    obtain ⟨h1, h2⟩ := ih (insR acc a) (insR_rise a acc h)
    refine ⟨h1, h2.trans ?_⟩
    have := (insR_perm acc a).append_right l
    rwa [List.append_assoc] at this
theorem sortR_eq (l : List Int) : sortR l = sortI l := by
  obtain ⟨h1, h2⟩ := sortR_both [] l List.Pairwise.nil
  exact (sortI_eq h1 h2.symm).symm
theorem leN_lt : ∀ (l : List Int) (x : Int) (k : Nat), k < leN l x → l.getD k 0 ≤ x := by
  intro l
  induction l with
  | nil => intro x k h; simp [leN] at h
  | cons a l ih =>
    intro x k h
    by_cases ha : a ≤ x
    · cases k with
      | zero => exact ha
      | succ k =>
        have : k < leN l x := by unfold leN at h ⊢; simp [ha] at h; exact h
        exact ih x k this
    · unfold leN at h; simp [ha] at h
theorem leN_at : ∀ (l : List Int) (x : Int), leN l x < l.length → ¬ l.getD (leN l x) 0 ≤ x := by
  intro l
  induction l with
  | nil => intro x h; simp [leN] at h
  | cons a l ih =>
    intro x h
    by_cases ha : a ≤ x
    · have e : leN (a :: l) x = leN l x + 1 := by unfold leN; simp [ha]
      rw [e] at h ⊢
      exact ih x (by simpa using h)
    · have e : leN (a :: l) x = 0 := by unfold leN; simp [ha]
      rw [e]
      exact ha
end Go.Proofs.YtkolilbebkkpdaaDoor
