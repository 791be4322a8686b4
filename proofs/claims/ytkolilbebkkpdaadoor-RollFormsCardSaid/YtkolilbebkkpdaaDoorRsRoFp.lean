/-
  Rolls; plain Lean: nothing but a commit changes who is in; who may say something writes.
-/
import Derived.Test.YtkolilbebkkpdaaDoorRsRoCm
namespace Go.Proofs.YtkolilbebkkpdaaDoor

theorem setM_ins (s : RS) (n : Int) (m : Mb) : (s.setM n m).ins = s.ins := rfl
theorem act_ins {s : RS} {o : OpI} {i : Idn} (hk : commitI o.k = false) : (s.act o i).ins = s.ins := by
  unfold commitI at hk
  rw [decide_eq_false_iff_not] at hk
  unfold RS.act
  rw [if_neg (fun h => hk (.inl h)), if_neg (fun h => hk (.inr (.inl h))), if_neg (fun h => hk (.inr (.inr (.inl h))))]
  split
  · unfold RS.doPromote; split <;> rfl
  split
  · unfold RS.doGuard; split <;> rfl
  split
  · unfold RS.doVouch; split
    · split <;> rfl
    · rfl
  split
  · unfold RS.doObject; split
    · split <;> rfl
    · rfl
  rw [if_neg (fun h => hk (.inr (.inr (.inr (.inr h)))))]
theorem act_message {s : RS} {o : OpI} {i : Idn} (hk : o.k = 6) : s.act o i = s := by
  unfold RS.act
  simp [hk]
theorem may_message {s : RS} {o : OpI} (hk : o.k = 6) (h : s.may o = 0) : 2 ≤ s.role (ofD o.b) := by
  unfold RS.may at h
  rw [if_neg (by omega)] at h
  split at h
  · cases h
  · unfold RS.ask at h
    simp only [hk] at h
    have h : (if s.role (ofD o.b) < 2 then (14 : Int) else 0) = 0 := h
    by_cases h2 : s.role (ofD o.b) < 2
    · rw [if_pos h2] at h; cases h
    · omega
end Go.Proofs.YtkolilbebkkpdaaDoor

