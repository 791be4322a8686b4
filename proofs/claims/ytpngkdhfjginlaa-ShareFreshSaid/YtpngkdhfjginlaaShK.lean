/-
  Shares (11): which shares huddleref09.Some takes (plain).
-/
import Derived.Test.YtpngkdhfjginlaaOpenI
namespace Go.Proofs.Ytpngkdhfjginlaa
open Go.RowKit

/-- One number's place, if it is new. -/
def pickOne (n : Nat) (had : List Nat) (a : Int) : List Nat := if (around a n).toNat ∈ had then had else had ++ [(around a n).toNat]
/-- The places that numbers tell, up to so many. -/
def picks (n most : Nat) : List Int → List Nat → List Nat
  | [], had => had
  | a :: zs, had => if had.length < most ∧ 0 < n then picks n most zs (pickOne n had a) else had
/-- The places that are left, in their row, up to so many. -/
def fills (most : Nat) (had : List Nat) : List Nat → List Nat → List Nat
  | [], out => out
  | k :: ks, out => if out.length < most then fills most had ks (if k ∈ had then out else out ++ [k]) else out

theorem pickOne_ok {n : Nat} {had : List Nat} {a : Int} (hlt : (around a n).toNat < n) (hd : had.Nodup) (hb : ∀ k ∈ had, k < n) : (pickOne n had a).Nodup ∧ (∀ k ∈ pickOne n had a, k < n) ∧ (pickOne n had a).length ≤ had.length + 1 := by
  unfold pickOne
  split
  · exact ⟨hd, hb, by omega⟩
  · rename_i h
    refine ⟨?_, ?_, by simp⟩
    · rw [List.nodup_append]
      refine ⟨hd, by simp, fun x hx y hy => ?_⟩
      rw [List.mem_singleton] at hy
      subst hy
      exact fun e => h (e ▸ hx)
    · intro k hk
      rcases List.mem_append.1 hk with hk | hk
      · exact hb k hk
      · rw [List.mem_singleton] at hk; rw [hk]; exact hlt
theorem picks_ok {n most : Nat} (hr : ∀ a : Int, 0 < n → (around a n).toNat < n) : ∀ (zs : List Int) (had : List Nat), had.Nodup → (∀ k ∈ had, k < n) → had.length ≤ most →
    (picks n most zs had).Nodup ∧ (∀ k ∈ picks n most zs had, k < n) ∧ (picks n most zs had).length ≤ most
  | [], had, h1, h2, h3 => ⟨h1, h2, h3⟩
  | a :: zs, had, h1, h2, h3 => by
    unfold picks
    split
    · rename_i h
      obtain ⟨p1, p2, p3⟩ := pickOne_ok (hr a h.2) h1 h2
      exact picks_ok hr zs _ p1 p2 (by omega)
    · exact ⟨h1, h2, h3⟩
theorem fills_ok {n most : Nat} {had : List Nat} : ∀ (ks out : List Nat), out.Nodup → (∀ k ∈ out, k < n) → out.length ≤ most → (∀ k ∈ ks, k < n ∧ (k ∈ had ∨ k ∉ out)) → ks.Nodup →
    (fills most had ks out).Nodup ∧ (∀ k ∈ fills most had ks out, k < n) ∧ (fills most had ks out).length ≤ most
  | [], out, h1, h2, h3, _, _ => ⟨h1, h2, h3⟩
  | k :: ks, out, h1, h2, h3, h4, h5 => by
    unfold fills
    obtain ⟨hk, hks⟩ := List.nodup_cons.1 h5
    split
    · by_cases hm : k ∈ had
      · rw [if_pos hm]
        exact fills_ok ks out h1 h2 h3 (fun j hj => h4 j (List.mem_cons_of_mem _ hj)) hks
      · rw [if_neg hm]
        obtain ⟨hkn, hko⟩ := h4 k (List.mem_cons_self ..)
        have hko' : k ∉ out := hko.resolve_left hm
        refine fills_ok ks (out ++ [k]) ?_ ?_ (by simp; omega) ?_ hks
        · rw [List.nodup_append]
          refine ⟨h1, by simp, fun x hx y hy => ?_⟩
          rw [List.mem_singleton] at hy
          subst hy
          exact fun e => hko' (e ▸ hx)
        · intro j hj
          rcases List.mem_append.1 hj with hj | hj
          · exact h2 j hj
          · rw [List.mem_singleton] at hj; rw [hj]; exact hkn
        · intro j hj
          obtain ⟨q1, q2⟩ := h4 j (List.mem_cons_of_mem _ hj)
          refine ⟨q1, q2.imp_right fun h => ?_⟩
          rw [List.mem_append, List.mem_singleton]
          rintro (h' | rfl)
          · exact h h'
          · exact hk hj
    · exact ⟨h1, h2, h3⟩
theorem fills_len {most : Nat} {had : List Nat} : ∀ (ks out : List Nat), (∀ k ∈ had, k ∈ out) →
    most ≤ (fills most had ks out).length ∨ ((∀ k ∈ ks, k ∈ fills most had ks out) ∧ ∀ k ∈ out, k ∈ fills most had ks out)
  | [], out, _ => .inr ⟨fun _ h => (by cases h), fun _ h => h⟩
  | k :: ks, out, h => by
    unfold fills
    split
    · have hsub : ∀ j ∈ out, j ∈ (if k ∈ had then out else out ++ [k]) := fun j hj => by
        split
        · exact hj
        · exact List.mem_append_left _ hj
      have hk : k ∈ (if k ∈ had then out else out ++ [k]) := by
        split
        · rename_i h1; exact h k h1
        · exact List.mem_append_right _ (List.mem_singleton.2 rfl)
      rcases fills_len (most := most) (had := had) ks (if k ∈ had then out else out ++ [k]) (fun j hj => hsub j (h j hj)) with h1 | ⟨h1, h2⟩
      · exact .inl h1
      · refine .inr ⟨fun j hj => ?_, fun j hj => h2 j (hsub j hj)⟩
        rcases List.mem_cons.1 hj with rfl | hj
        · exact h2 _ hk
        · exact h1 j hj
    · left; omega
theorem len_of_all {l : List Nat} : ∀ n : Nat, l.Nodup → (∀ k, k < n → k ∈ l) → n ≤ l.length := by
  intro n
  induction n generalizing l with
  | zero => intro _ _; omega
  | succ n ih =>
    intro hd h
    have hm := h n (by omega)
    have h1 := ih (l := l.erase n) (hd.erase n) (fun k hk => by
      rw [List.mem_erase_of_ne (by omega)]
      exact h k (by omega))
    rw [List.length_erase_of_mem hm] at h1
    have := List.length_pos_of_mem hm
    omega
/-- The places that huddleref09.Some takes. -/
def somes (n most : Nat) (at' : List Int) : List Nat := fills most (picks n most at' []) (List.range n) (picks n most at' [])
theorem somes_ok (n most : Nat) (at' : List Int) : (somes n most at').Nodup ∧ (∀ k ∈ somes n most at', k < n) ∧ (somes n most at').length = min most n := by
  have hr : ∀ a : Int, 0 < n → (around a n).toNat < n := fun a h => by
    have := around_bd a (n : Int) (by omega)
    omega
  obtain ⟨p1, p2, p3⟩ := picks_ok (n := n) (most := most) hr at' [] (by simp) (by simp) (by simp)
  obtain ⟨f1, f2, f3⟩ := fills_ok (n := n) (most := most) (had := picks n most at' []) (List.range n) _ p1 p2 p3 (fun k hk => ⟨List.mem_range.1 hk, by
    by_cases h : k ∈ picks n most at' []
    · exact .inl h
    · exact .inr h⟩) List.nodup_range
  refine ⟨f1, f2, ?_⟩
  have hle : ∀ (m : Nat) (l : List Nat), l.Nodup → (∀ k ∈ l, k < m) → l.length ≤ m := by
    intro m
    induction m with
    | zero =>
      intro l _ h
      cases l with
      | nil => simp
      | cons a l => exact absurd (h a (List.mem_cons_self ..)) (by omega)
    | succ m ih =>
      intro l hd h
      have h1 := ih (l.erase m) (hd.erase m) (fun k hk => by
        have a1 := h k (List.mem_of_mem_erase hk)
        have a2 := (hd.mem_erase_iff.1 hk).1
        omega)
      by_cases hm : m ∈ l
      · rw [List.length_erase_of_mem hm] at h1; omega
      · rw [List.erase_of_not_mem hm] at h1; omega
  have h1 := hle n _ f1 f2
  change (fills most (picks n most at' []) (List.range n) (picks n most at' [])).length = min most n
  rcases fills_len (most := most) (had := picks n most at' []) (List.range n) (picks n most at' []) (fun _ h => h) with h2 | ⟨h2, _⟩
  · omega
  · have h3 := len_of_all n f1 (fun k hk => h2 k (List.mem_range.2 hk))
    omega
end Go.Proofs.Ytpngkdhfjginlaa
