/-
  Rolls; plain Lean: what holds of a roll behind some operations.
-/
import Derived.Test.YtkolilbebkkpdaaDoorRoA
namespace Go.Proofs.YtkolilbebkkpdaaDoor

/-- Of a guard, behind k operations. -/
structure Gd.Ok (g : Gd) (k : Nat) : Prop where
  gl : g.gs.length ≤ 1000
  ne : g.gs ≠ []
  gb : ∀ x ∈ g.gs, 0 ≤ x ∧ x ≤ 1000000
  hn : 1 ≤ g.n ∧ g.n ≤ 1000000
  ht : 0 ≤ g.t ∧ g.t ≤ 1000000
  hl : 0 ≤ g.la ∧ g.la ≤ 1000000
  vl : g.vo.length ≤ k
  vb : ∀ v ∈ g.vo, (0 ≤ v.1.1 ∧ v.1.1 ≤ 1000000) ∧ (0 ≤ v.1.2 ∧ v.1.2 ≤ 1000000) ∧ 0 ≤ v.2 ∧ v.2 ≤ 1000000
  vn : (g.vo.map Prod.fst).Nodup
  hi : g.id.s ≤ k
/-- Of a roll, behind k operations. -/
structure RS.Ok (s : RS) (k : Nat) : Prop where
  ins : ∀ d ∈ s.ins ++ s.gone, 1 ≤ d ∧ d ≤ 7
  nd : (s.ins ++ s.gone).Nodup
  mn : (s.ms.map Prod.fst).Nodup
  mem : ∀ p ∈ s.ms, 1 ≤ p.1 ∧ p.1 ≤ 4 ∧ 0 ≤ p.2.r ∧ p.2.r ≤ 1000000
  gd : ∀ p ∈ s.ms, ∀ g, p.2.g = some g → g.Ok k
  ids : s.idsU
  bk : 0 ≤ s.bk ∧ s.bk ≤ 1000000
theorem nodup_len : ∀ (l m : List Int), l.Nodup → (∀ x ∈ l, x ∈ m) → l.length ≤ m.length := by
  intro l
  induction l with
  | nil => intro m _ _; exact Nat.zero_le _
  | cons a l ih =>
    intro m hd hm
    obtain ⟨k1, k2⟩ := List.nodup_cons.1 hd
    have ha := hm a (List.mem_cons_self ..)
    have := ih (m.erase a) k2 fun x hx => (List.mem_erase_of_ne (fun e => k1 (by rw [← e]; exact hx))).2 (hm x (List.mem_cons_of_mem _ hx))
    rw [List.length_erase_of_mem ha] at this
    have := List.length_pos_of_mem ha
    rw [List.length_cons]; omega
theorem RS.Ok.few {s : RS} {k : Nat} (h : s.Ok k) : (s.ins ++ s.gone).length ≤ 7 := by
  refine nodup_len _ [1, 2, 3, 4, 5, 6, 7] h.nd fun x hx => ?_
  have := h.ins x hx
  simp only [List.mem_cons, List.not_mem_nil, or_false]
  omega
theorem RS.Ok.fewM {s : RS} {k : Nat} (h : s.Ok k) : s.ms.length ≤ 4 := by
  have := nodup_len _ [1, 2, 3, 4] h.mn fun x hx => by
    obtain ⟨p, hp, rfl⟩ := List.mem_map.1 hx
    have := h.mem p hp
    simp only [List.mem_cons, List.not_mem_nil, or_false]
    omega
  rwa [List.length_map] at this
end Go.Proofs.YtkolilbebkkpdaaDoor
