/-
  Rolls; plain Lean: a quorum of guards.
-/
import Derived.Test.YtkolilbebkkpdaaDoorRmB
namespace Go.Proofs.YtkolilbebkkpdaaDoor

def qI : Idn := ⟨2, 9, 9⟩
def qG (n t : Int) : OpI := ⟨2, 9, 9, 0, 0, 0, 0, 0, ⟨0, 0, 0⟩, [1, 2, 3], n, t⟩
def qV (i : Nat) (t : Int) : OpI := ⟨1 + i, 10 + i, 11, t, 5, 0, 0, 0, qI, [], 0, 0⟩
def qO (a : Int) : OpI := ⟨2, 20, 12, a, 0, 0, 0, 0, qI, [], 0, 0⟩
def qX (a : Int) : OpI := ⟨3, 30, 13, a, 5, 2, 0, 0, qI, [], 0, 0⟩
def sF : RS := ⟨[1, 2, 3], [], [(1, ⟨3, none⟩), (2, ⟨3, none⟩), (3, ⟨2, none⟩)], 3⟩
def gQ (n t : Int) (vo : List ((Int × Int) × Int)) (ob : Bool) (la : Int) : Gd := ⟨qI, [1, 2, 3], n, t, vo, ob, la⟩
def sQ (n t : Int) (vo : List ((Int × Int) × Int)) (ob : Bool) (la : Int) : RS := ⟨[1, 2, 3], [], [(1, ⟨3, none⟩), (2, ⟨3, some (gQ n t vo ob la)⟩), (3, ⟨2, none⟩)], 3⟩
def voQ : List Int → List ((Int × Int) × Int)
 | [a, b, c] => [((1, 5), a), ((2, 5), b), ((3, 5), c)]
 | [a, b] => [((1, 5), a), ((2, 5), b)]
 | [a] => [((1, 5), a)]
 | _ => []
theorem q_guard (n t : Int) : sF.act (qG n t) qI = sQ n t [] false 0 := rfl
theorem q_may_guard (n t : Int) : sF.may (qG n t) = 0 := rfl
theorem short3 {l : List Int} {j : Nat} (hl : l.length = j) (hj : j < 3) : (l = [] ∧ j = 0) ∨ (∃ a, l = [a] ∧ j = 1) ∨ ∃ a b, l = [a, b] ∧ j = 2 := by
 match l, hl with
 | [], h => exact .inl ⟨rfl, h.symm⟩
 | [a], h => exact .inr (.inl ⟨a, rfl, h.symm⟩)
 | [a, b], h => exact .inr (.inr ⟨a, b, rfl, h.symm⟩)
 | a :: b :: c :: l, h => simp only [List.length_cons] at h; omega
theorem q_may_vouch (n t : Int) {l : List Int} {j : Nat} (hl : l.length = j) (hj : j < 3) (a : Int) : (sQ n t (voQ l) false 0).may (qV j a) = 0 := by
 rcases short3 hl hj with ⟨rfl, rfl⟩ | ⟨x, rfl, rfl⟩ | ⟨x, y, rfl, rfl⟩ <;> rfl
theorem q_vouch (n t : Int) {l : List Int} {j : Nat} (hl : l.length = j) (hj : j < 3) (a : Int) (i : Idn) : (sQ n t (voQ l) false 0).act (qV j a) i = sQ n t (voQ (l ++ [a])) false 0 := by
 rcases short3 hl hj with ⟨rfl, rfl⟩ | ⟨x, rfl, rfl⟩ | ⟨x, y, rfl, rfl⟩ <;> rfl
theorem vouch_again {s : RS} {o : OpI} {i : Idn} {r : Int} {g : Gd} {b : Int} (hk : o.k = 11) (h0 : (s.guards o).2 = 0) (hm : s.memb (s.guards o).1 = some ⟨r, some g⟩) (hl : lk g.vo (o.b, o.d) = some b) (hb : ¬ o.a < b) :
  s.act o i = s.setM (s.guards o).1 ⟨r, some g⟩ := by
 unfold RS.act
 rw [hk]
 show s.doVouch o = _
 unfold RS.doVouch
 rw [if_pos h0, hm]
 show s.setM _ ⟨r, some (vouchG g o)⟩ = _
 have : vouchG g o = g := by
  unfold vouchG
  rw [hl]
  exact if_neg hb
 rw [this]
theorem q_again (n t : Int) {l : List Int} {j : Nat} (hl : l.length = j) (hj : j < 3) (a : Int) (i : Idn) : (sQ n t (voQ (l ++ [a])) false 0).act (qV j (a + 5)) i = sQ n t (voQ (l ++ [a])) false 0 := by
 have hb : ¬ (a + 5 < a) := by omega
 rcases short3 hl hj with ⟨rfl, rfl⟩ | ⟨x, rfl, rfl⟩ | ⟨x, y, rfl, rfl⟩ <;> exact vouch_again (b := a) rfl rfl rfl rfl hb
theorem q_object (n t : Int) (vo : List ((Int × Int) × Int)) (a : Int) (i : Idn) (ha : 0 ≤ a) : (sQ n t vo false 0).act (qO a) i = sQ n t vo true a := by
 have : max 0 a = a := by omega
 show sQ n t vo true (max 0 a) = _
 rw [this]
theorem q_ats (n t : Int) {l : List Int} (hl : l.length ≤ 3) (ob : Bool) (la : Int) : (gQ n t (voQ l) ob la).ats 5 = l := by
 match l, hl with
 | [], _ => rfl
 | [a], _ => rfl
 | [a, b], _ => rfl
 | [a, b, c], _ => rfl
 | a :: b :: c :: d :: l, h => simp only [List.length_cons] at h; omega
theorem q_due (n t : Int) {l : List Int} (hl : l.length ≤ 3) (ob : Bool) (la : Int) : (sQ n t (voQ l) ob la).due 2 5 = dueL (gQ n t (voQ l) ob la) (sortI l) := by
 show dueL (gQ n t (voQ l) ob la) (sortI ((gQ n t (voQ l) ob la).ats 5)) = _
 rw [q_ats n t hl]
/-- What the Replace is told. -/
def wantQ (n t : Int) (l : List Int) (ob : Bool) (la a : Int) : Int :=
 if (l.length : Int) < n then 26 else if ob = true ∧ nthI (sortI l) 0 ≤ la then 28 else if a < nthI (sortI l) (n - 1).toNat + t then 27 else 0
theorem q_may_replace (n t : Int) {l : List Int} (hl : l.length ≤ 3) (ob : Bool) (la a : Int) : (sQ n t (voQ l) ob la).may (qX a) = wantQ n t l ob la a := by
 have e : (sQ n t (voQ l) ob la).may (qX a) = if ((sQ n t (voQ l) ob la).due 2 5).2 = 0 ∧ a < ((sQ n t (voQ l) ob la).due 2 5).1 then 27 else ((sQ n t (voQ l) ob la).due 2 5).2 := rfl
 rw [e, q_due n t hl]
 have hlen : (sortI l).length = l.length := sortI_len l
 unfold wantQ
 by_cases h1 : (l.length : Int) < n
 ·have hD : dueL (gQ n t (voQ l) ob la) (sortI l) = (0, 26) := if_pos (by rw [hlen]; exact h1)
  rw [hD, if_pos h1]
  rfl
 ·have hN : ¬ (((sortI l).length : Int) < (gQ n t (voQ l) ob la).n) := by rw [hlen]; exact h1
  by_cases h2 : ob = true ∧ nthI (sortI l) 0 ≤ la
  ·have hD : dueL (gQ n t (voQ l) ob la) (sortI l) = (0, 28) := (if_neg hN).trans (if_pos h2)
   rw [hD, if_neg h1, if_pos h2]
   rfl
  ·have hD : dueL (gQ n t (voQ l) ob la) (sortI l) = (nthI (sortI l) (n - 1).toNat + t, 0) := (if_neg hN).trans (if_neg h2)
   rw [hD, if_neg h1, if_neg h2]
   by_cases h3 : a < nthI (sortI l) (n - 1).toNat + t
   ·rw [if_pos ⟨rfl, h3⟩, if_pos h3]
   ·rw [if_neg (fun h => h3 h.2), if_neg h3]
def sX (n t : Int) (vo : List ((Int × Int) × Int)) (ob : Bool) (la : Int) : RS := ⟨[1, 3, 5], [2], [(1, ⟨3, none⟩), (2, ⟨3, some (gQ n t vo ob la)⟩), (3, ⟨2, none⟩)], 3⟩
theorem q_replace (n t : Int) (vo : List ((Int × Int) × Int)) (ob : Bool) (la a : Int) (i : Idn) : (sQ n t vo ob la).act (qX a) i = sX n t vo ob la := rfl
theorem qG_ok {n t : Int} (hn : 0 ≤ n ∧ n ≤ 1000000) (ht : 0 ≤ t ∧ t ≤ 1000000) : (qG n t).Ok := by
 constructor
 case hn => exact hn
 case ht => exact ht
 all_goals simp [qG]
theorem qV_ok {j : Nat} (hj : j < 3) {a : Int} (ha : 0 ≤ a ∧ a ≤ 1000000) : (qV j a).Ok := by
 constructor
 case ha => exact ha
 case hb => exact ⟨by show (0 : Int) ≤ 1 + j; omega, by show (1 : Int) + j ≤ 1000000; omega⟩
 case hs => exact ⟨by show (0 : Int) ≤ 10 + j; omega, by show (10 : Int) + j ≤ 1000000; omega⟩
 all_goals simp [qV, qI]
theorem qO_ok {a : Int} (ha : 0 ≤ a ∧ a ≤ 1000000) : (qO a).Ok := by
 constructor
 case ha => exact ha
 all_goals simp [qO, qI]
theorem qX_ok {a : Int} (ha : 0 ≤ a ∧ a ≤ 1000000) : (qX a).Ok := by
 constructor
 case ha => exact ha
 all_goals simp [qX, qI]
end Go.Proofs.YtkolilbebkkpdaaDoor

