/-
  A region that draws its order, operation by operation: the operation is named by what is left of the list.
  Operations made of numbers; plain Lean.
  Operations made of numbers are such as a roll may be asked; plain Lean.
  An operation in a variable, written field by field.
  Are two rows of numbers the same.
-/
import Derived.Test.YtkolilbebkkpdaaDoorRmE
import Derived.Maps.RangeWalk
import Derived.Test.YtkolilbebkkpdaaDoorRmF
import Derived.Test.YtkolilbebkkpdaaDoorRmB
namespace Go.Proofs.YtkolilbebkkpdaaDoor
open Go.RowKit

section
variable {P : Program} {md : Region.Mode} {l rest : List Oper} {Q : Exit → Act → World → Prop} {D : World → Prop}
theorem at_of_drop {i : Nat} {oi : Oper} (h : l.drop i = oi :: rest) : l.toArray[i]? = some oi := by
 have h1 : (l.drop i)[0]? = some oi := by rw [h]; rfl
 rw [List.getElem?_drop, Nat.add_zero] at h1
 rw [List.getElem?_toArray]
 exact h1
theorem tkD (i : Nat) {oi : Oper} {v : Value} {fuel : Nat} {listed : Array Bool} {a : Act} {w : World} (hD : D w) (hi : l.drop i = oi :: rest)
  (hs : Region.noSelect l.toArray = true := by kernel_rfl) (hf : Region.free md l.toArray listed i = true := by kernel_rfl) (hr : (Region.ready md l.toArray listed).contains i = true := by kernel_rfl)
  (hQ : ∀ c a w, Q (.panic c) (a.put oi.dst v) w → Q (.panic c) a w := by intro _ _ _ h; first | exact h | exact absurd h.1 (fun h => by cases h)) (hg : Region.wanted oi (yielded l.toArray a.tmps) = true := by kernel_rfl) (hy : ∀ w, D w → (execOp a.eval oi).run P w = .ok (.value v) w)
  (h : wpAnyD P md l.toArray Q D fuel (listed.setIfInBounds i true) (a.put oi.dst v) w) : wpAnyD P md l.toArray Q D (fuel + 1) listed a w :=
 wpAnyD_takeG hD (at_of_drop hi) hs hf hr hQ hg hy h
/-- An operation that is not wanted. -/
theorem noD (i : Nat) {oi : Oper} {fuel : Nat} {listed : Array Bool} {a : Act} {w : World} (hD : D w) (hi : l.drop i = oi :: rest)
  (hs : Region.noSelect l.toArray = true := by kernel_rfl) (hf : Region.free md l.toArray listed i = true := by kernel_rfl) (hr : (Region.ready md l.toArray listed).contains i = true := by kernel_rfl)
  (hQ : ∀ c a w, Q (.panic c) (a.put oi.dst undef) w → Q (.panic c) a w := by intro _ _ _ h; first | exact h | exact absurd h.1 (fun h => by cases h)) (hg : Region.wanted oi (yielded l.toArray a.tmps) = false := by kernel_rfl)
  (h : wpAnyD P md l.toArray Q D fuel (listed.setIfInBounds i true) (a.put oi.dst undef) w) : wpAnyD P md l.toArray Q D (fuel + 1) listed a w :=
 wpAnyD_first (at_of_drop hi) (Region.noSelect_spec hs) hQ fuel listed a w hD (Region.free_spec (at_of_drop hi) hf) (by simpa using hr) (.inr ⟨hg, rfl⟩) h
theorem oneD (i : Nat) {fuel : Nat} {listed : Array Bool} {a : Act} {w : World} {o : Oper} (hr : Region.ready md l.toArray listed = [i]) (ho : l.drop i = o :: rest) (hg : Region.wanted o (yielded l.toArray a.tmps) = true)
  (h : ∀ K : Act → World → Prop, (∀ a' w', D w' ∧ wpAnyD P md l.toArray Q D fuel (listed.setIfInBounds i true) a' w' → K a' w') → o.wp P a w K Q) : wpAnyD P md l.toArray Q D (fuel + 1) listed a w :=
 wpAnyD_oneG hr (at_of_drop ho) hg h
theorem twoD (i j : Nat) {rest2 : List Oper} {fuel : Nat} {listed : Array Bool} {a : Act} {w : World} {o p : Oper} (hr : Region.ready md l.toArray listed = [i, j]) (ho : l.drop i = o :: rest) (hp : l.drop j = p :: rest2) (hg : Region.wanted o (yielded l.toArray a.tmps) = true) (hg2 : Region.wanted p (yielded l.toArray a.tmps) = true)
  (h : ∀ K : Act → World → Prop, (∀ a' w', D w' ∧ wpAnyD P md l.toArray Q D fuel (listed.setIfInBounds i true) a' w' → K a' w') → o.wp P a w K Q)
  (h2 : ∀ K : Act → World → Prop, (∀ a' w', D w' ∧ wpAnyD P md l.toArray Q D fuel (listed.setIfInBounds j true) a' w' → K a' w') → p.wp P a w K Q) : wpAnyD P md l.toArray Q D (fuel + 1) listed a w :=
 wpAnyD_twoG hr (at_of_drop ho) (at_of_drop hp) hg hg2 h h2
end
end Go.Proofs.YtkolilbebkkpdaaDoor

namespace Go.Proofs.YtkolilbebkkpdaaDoor

def kindsL : List Int := [2, 2, 3, 5, 9, 11, 11, 13, 12, 10, 6, 8, 4, 7, 1, 9]
def rowsG : List (List Int) := [[1, 2], [2, 3], [1, 2, 3], [1], [2]]
/-- The i-th number, or 0. -/
def kN (xs : List Int) (i : Nat) : Int := if i < xs.length then around (nth xs i) 1000000 else 0
theorem kN_bd (xs : List Int) (i : Nat) : 0 ≤ kN xs i ∧ kN xs i < 1000000 := by
 unfold kN
 split
 ·exact around_bd _ _ (by decide)
 ·omega
def opZ : OpI := ⟨0, 0, 0, 0, 0, 0, 0, 0, ⟨0, 0, 0⟩, [], 0, 0⟩
/-- The names of those of the first that are Guards. -/
def gN (l : List OpI) : Nat → List Idn
 | 0 => []
 | j + 1 => gN l j ++ (if (l.getD j opZ).k = 9 then [(l.getD j opZ).name j] else [])
theorem gN_len (l : List OpI) : ∀ j, (gN l j).length ≤ j := by
 intro j
 induction j with
 | zero => exact Nat.le_refl _
 | succ j ih =>
  show (gN l j ++ _).length ≤ _
  rw [List.length_append]
  split <;> simp <;> omega
def kindK (k0 : Int) : Int := kindsL.getD (k0 % 16).toNat 0
def ofK (k3 : Int) (gs : List Idn) : Idn := if gs.length = 0 then ⟨1 + k3 % 7, 1 + k3 / 7 % 4, 0⟩ else gs.getD (k3 % gs.length).toNat ⟨0, 0, 0⟩
def devK (k2 : Int) : Int := [4, 5, 7, 4, 1 + k2 / 5 % 7].getD (k2 % 5).toNat 0
def rowK (k2 : Int) : List Int := rowsG.getD (k2 % 5).toNat []
def remD (k2 : Int) : Int := if k2 % 9 = 8 then 0 else k2 % 9
/-- By its kind. -/
def opK (K b s a k1 k2 k3 : Int) (of : Idn) : OpI :=
 if K = 1 then ⟨b, s, K, a, 0, 0, 0, 0, ⟨0, 0, 0⟩, [], k2 % 5, 0⟩
 else if K = 2 then ⟨b, s, K, a, 1 + k2 % 8, 0, 0, 1 + k3 % 3, ⟨0, 0, 0⟩, [], 0, 0⟩
 else if K = 3 then ⟨b, s, K, a, remD k2, 0, if remD k2 = 0 then 1 + k3 % 4 else 0, 0, ⟨0, 0, 0⟩, [], 0, 0⟩
 else if K = 5 then ⟨b, s, K, a, 0, 0, 1 + k2 % 5, 1 + k3 % 3, ⟨0, 0, 0⟩, [], 0, 0⟩
 else if K = 9 then ⟨b, s, K, a, 0, 0, 0, 0, ⟨0, 0, 0⟩, rowK k2, 1 + k3 % (rowK k2).length, k3 / 3 % 4⟩
 else if K = 11 then ⟨1 + k1 % 3, s, K, a, devK k2, 0, 0, 0, of, [], 0, 0⟩
 else if K = 13 then ⟨1 + k1 % 3, s, K, a, devK k2, 1 + k2 / 35 % 7, 0, 0, of, [], 0, 0⟩
 else if K = 8 ∨ K = 12 ∨ K = 10 ∨ K = 7 then ⟨b, s, K, a, 0, 0, 0, 0, of, [], 0, 0⟩
 else ⟨b, s, K, a, 0, 0, 0, 0, ⟨0, 0, 0⟩, [], 0, 0⟩
/-- The operation that some numbers make, behind some that were done. -/
def opN (xs : List Int) (l : List OpI) : OpI :=
 opK (kindK (kN xs 0)) (1 + kN xs 1 % 7) (1 + l.length) (2 * l.length + kN xs 0 / 16 % 3) (kN xs 1) (kN xs 2) (kN xs 3) (ofK (kN xs 3) (gN l l.length))
/-- The operations that numbers make. -/
def opsN (xs : List Int) : Nat → List OpI
 | 0 => [⟨1, 1, 1, 0, 0, 0, 0, 0, ⟨0, 0, 0⟩, [], 3, 0⟩, ⟨1, 2, 2, 0, 2, 0, 0, 3, ⟨0, 0, 0⟩, [], 0, 0⟩, ⟨1, 3, 2, 0, 3, 0, 0, 2, ⟨0, 0, 0⟩, [], 0, 0⟩]
 | i + 1 => if 4 * i < xs.length then opsN xs i ++ [opN (xs.drop (4 * i)) (opsN xs i)] else opsN xs i
theorem kindK_cases (k0 : Int) (_h : 0 ≤ k0) : kindK k0 = 1 ∨ kindK k0 = 2 ∨ kindK k0 = 3 ∨ kindK k0 = 4 ∨ kindK k0 = 5 ∨ kindK k0 = 6 ∨ kindK k0 = 7 ∨ kindK k0 = 8 ∨ kindK k0 = 9 ∨ kindK k0 = 10 ∨ kindK k0 = 11 ∨ kindK k0 = 12 ∨ kindK k0 = 13 := by
 unfold kindK
 obtain ⟨j, hj⟩ : ∃ j : Nat, (k0 % 16).toNat = j := ⟨_, rfl⟩
 have hj2 : j < 16 := by omega
 rw [hj]
 have : j = 0 ∨ j = 1 ∨ j = 2 ∨ j = 3 ∨ j = 4 ∨ j = 5 ∨ j = 6 ∨ j = 7 ∨ j = 8 ∨ j = 9 ∨ j = 10 ∨ j = 11 ∨ j = 12 ∨ j = 13 ∨ j = 14 ∨ j = 15 := by omega
 rcases this with rfl | rfl | rfl | rfl | rfl | rfl | rfl | rfl | rfl | rfl | rfl | rfl | rfl | rfl | rfl | rfl <;> simp [kindsL]
theorem rowK_cases (k2 : Int) (_h : 0 ≤ k2) : rowK k2 = [1, 2] ∨ rowK k2 = [2, 3] ∨ rowK k2 = [1, 2, 3] ∨ rowK k2 = [1] ∨ rowK k2 = [2] := by
 unfold rowK
 obtain ⟨j, hj⟩ : ∃ j : Nat, (k2 % 5).toNat = j := ⟨_, rfl⟩
 have hj2 : j < 5 := by omega
 rw [hj]
 have : j = 0 ∨ j = 1 ∨ j = 2 ∨ j = 3 ∨ j = 4 := by omega
 rcases this with rfl | rfl | rfl | rfl | rfl <;> simp [rowsG]
theorem devK_bd (k2 : Int) (_h : 0 ≤ k2) : 1 ≤ devK k2 ∧ devK k2 ≤ 7 := by
 unfold devK
 obtain ⟨j, hj⟩ : ∃ j : Nat, (k2 % 5).toNat = j := ⟨_, rfl⟩
 have hj2 : j < 5 := by omega
 rw [hj]
 have : j = 0 ∨ j = 1 ∨ j = 2 ∨ j = 3 ∨ j = 4 := by omega
 rcases this with rfl | rfl | rfl | rfl | rfl <;> simp <;> omega
def Idn.Sm (i : Idn) : Prop := (0 ≤ i.b ∧ i.b ≤ 1000000) ∧ (0 ≤ i.s ∧ i.s ≤ 1000000) ∧ (0 ≤ i.u ∧ i.u ≤ 1000000)
theorem gN_sm {l : List OpI} (hl : ∀ o ∈ l, o.Ok) (h2 : l.length ≤ 1000) : ∀ j, j ≤ l.length → ∀ i ∈ gN l j, i.Sm := by
 intro j
 induction j with
 | zero => intro _ i hi; cases hi
 | succ j ih =>
  intro hj i hi
  rcases List.mem_append.1 (show i ∈ gN l j ++ _ from hi) with hi | hi
  ·exact ih (by omega) i hi
  ·split at hi
   ·rw [List.mem_singleton] at hi
    subst hi
    have hjl : j < l.length := by omega
    have hm : l.getD j opZ ∈ l := by
     rw [List.getD_eq_getElem?_getD, List.getElem?_eq_getElem hjl]
     exact List.getElem_mem hjl
    have hk := hl _ hm
    exact ⟨hk.hb, ⟨by show (0 : Int) ≤ (j : Int) + 1; omega, by show (j : Int) + 1 ≤ 1000000; omega⟩, hk.hk⟩
   ·cases hi
theorem ofK_sm {k3 : Int} (_h0 : 0 ≤ k3) {gs : List Idn} (hg : ∀ i ∈ gs, i.Sm) : (ofK k3 gs).Sm := by
 unfold ofK
 split
 ·exact ⟨⟨by show (0 : Int) ≤ 1 + k3 % 7; omega, by show (1 : Int) + k3 % 7 ≤ 1000000; omega⟩, ⟨by show (0 : Int) ≤ 1 + k3 / 7 % 4; omega, by show (1 : Int) + k3 / 7 % 4 ≤ 1000000; omega⟩, by show (0 : Int) ≤ 0 ∧ (0 : Int) ≤ 1000000; decide⟩
 ·rename_i hne
  have hlt : (k3 % gs.length).toNat < gs.length := by
   have h1 := Int.emod_lt_of_pos k3 (b := (gs.length : Int)) (by omega)
   have h2 := Int.emod_nonneg k3 (b := (gs.length : Int)) (by omega)
   omega
  rw [List.getD_eq_getElem?_getD, List.getElem?_eq_getElem hlt]
  exact hg _ (List.getElem_mem hlt)
end Go.Proofs.YtkolilbebkkpdaaDoor

namespace Go.Proofs.YtkolilbebkkpdaaDoor

structure OpI.Good (o : OpI) : Prop where
 ok : o.Ok
 gd : o.k = 9 → o.gs ≠ [] ∧ 1 ≤ o.n
theorem ok_of {b s k a d o m r n t : Int} {f : Idn} {gs : List Int} (hb : 0 ≤ b ∧ b ≤ 1000000) (hs : 0 ≤ s ∧ s ≤ 1000000) (hk : 0 ≤ k ∧ k ≤ 1000000) (ha : 0 ≤ a ∧ a ≤ 1000000) (hd : 0 ≤ d ∧ d ≤ 1000000) (ho : 0 ≤ o ∧ o ≤ 1000000) (hm : 0 ≤ m ∧ m ≤ 1000000) (hr : 0 ≤ r ∧ r ≤ 1000000) (hf : f.Sm) (hn : 0 ≤ n ∧ n ≤ 1000000) (ht : 0 ≤ t ∧ t ≤ 1000000) (hg : gs.length ≤ 1000 ∧ ∀ x ∈ gs, 0 ≤ x ∧ x ≤ 1000000) : OpI.Ok ⟨b, s, k, a, d, o, m, r, f, gs, n, t⟩ :=
 ⟨hb, hs, hk, ha, hd, ho, hm, hr, hf.1, hf.2.1, hf.2.2, hn, ht, hg.1, hg.2⟩
theorem sm0 : Idn.Sm ⟨0, 0, 0⟩ := by unfold Idn.Sm; simp
theorem g0 : ([] : List Int).length ≤ 1000 ∧ ∀ x ∈ ([] : List Int), 0 ≤ x ∧ x ≤ 1000000 := ⟨by simp, by simp⟩
theorem opK_good {K b s a k1 k2 k3 : Int} {of : Idn} (hK : 0 ≤ K ∧ K ≤ 13) (hb : 0 ≤ b ∧ b ≤ 1000000) (hs : 0 ≤ s ∧ s ≤ 1000000) (ha : 0 ≤ a ∧ a ≤ 1000000) (h2 : 0 ≤ k2) (hof : of.Sm) : (opK K b s a k1 k2 k3 of).Good := by
 have z : (0 : Int) ≤ 0 ∧ (0 : Int) ≤ 1000000 := by decide
 have hk : 0 ≤ K ∧ K ≤ 1000000 := by omega
 have hdv := devK_bd k2 h2
 unfold opK
 split
 ·rename_i e; exact ⟨ok_of hb hs hk ha z z z z sm0 (by omega) z g0, fun h => by have h : K = 9 := h; omega⟩
 split
 ·exact ⟨ok_of hb hs hk ha (by omega) z z (by omega) sm0 z z g0, fun h => by have h : K = 9 := h; omega⟩
 split
 ·refine ⟨ok_of hb hs hk ha ?_ z ?_ z sm0 z z g0, fun h => by have h : K = 9 := h; omega⟩
  ·unfold remD; split <;> omega
  ·split <;> omega
 split
 ·exact ⟨ok_of hb hs hk ha z z (by omega) (by omega) sm0 z z g0, fun h => by have h : K = 9 := h; omega⟩
 split
 ·have hr := rowK_cases k2 h2
  have hrl : 1 ≤ (rowK k2).length ∧ (rowK k2).length ≤ 3 := by rcases hr with h | h | h | h | h <;> rw [h] <;> decide
  have hrb : ∀ x ∈ rowK k2, 0 ≤ x ∧ x ≤ 1000000 := by
   rcases hr with h | h | h | h | h <;> rw [h] <;> simp
  have hm1 := Int.emod_nonneg k3 (b := ((rowK k2).length : Int)) (by omega)
  have hm2 := Int.emod_lt_of_pos k3 (b := ((rowK k2).length : Int)) (by omega)
  refine ⟨ok_of hb hs hk ha z z z z sm0 (by omega) (by omega) ⟨by omega, hrb⟩, fun _ => ⟨fun e => ?_, by show (1 : Int) ≤ 1 + k3 % (rowK k2).length; omega⟩⟩
  have e : rowK k2 = [] := e
  rw [e] at hrl
  exact absurd hrl.1 (by decide)
 split
 ·exact ⟨ok_of (by omega) hs hk ha (by omega) z z z hof z z g0, fun h => by have h : K = 9 := h; omega⟩
 split
 ·exact ⟨ok_of (by omega) hs hk ha (by omega) (by omega) z z hof z z g0, fun h => by have h : K = 9 := h; omega⟩
 split
 ·exact ⟨ok_of hb hs hk ha z z z z hof z z g0, fun h => by have h : K = 9 := h; omega⟩
 ·exact ⟨ok_of hb hs hk ha z z z z sm0 z z g0, fun h => by have h : K = 9 := h; omega⟩
theorem opN_good (xs : List Int) {l : List OpI} (hl : ∀ o ∈ l, o.Ok) (h2 : l.length ≤ 1000) : (opN xs l).Good := by
 have b0 := kN_bd xs 0
 have b1 := kN_bd xs 1
 have b2 := kN_bd xs 2
 have b3 := kN_bd xs 3
 have hK : 0 ≤ kindK (kN xs 0) ∧ kindK (kN xs 0) ≤ 13 := by
  rcases kindK_cases (kN xs 0) b0.1 with h | h | h | h | h | h | h | h | h | h | h | h | h <;> rw [h] <;> decide
 exact opK_good hK (by omega) (by omega) (by omega) b2.1 (ofK_sm b3.1 (gN_sm hl h2 _ (Nat.le_refl _)))
theorem opsN_len (xs : List Int) : ∀ i, (opsN xs i).length ≤ 3 + i := by
 intro i
 induction i with
 | zero => exact Nat.le_refl 3
 | succ i ih =>
  unfold opsN
  split
  ·rw [List.length_append]; simp; omega
  ·omega
theorem opsN_good (xs : List Int) : ∀ i, i ≤ 900 → ∀ o ∈ opsN xs i, o.Good := by
 intro i
 induction i with
 | zero =>
  intro _ o ho
  simp only [opsN, List.mem_cons, List.not_mem_nil, or_false] at ho
  have z : (0 : Int) ≤ 0 ∧ (0 : Int) ≤ 1000000 := by decide
  rcases ho with rfl | rfl | rfl <;> refine ⟨ok_of (by decide) (by decide) (by decide) (by decide) (by decide) (by decide) (by decide) (by decide) sm0 (by decide) (by decide) g0, fun h => by revert h; decide⟩
 | succ i ih =>
  intro hi o ho
  unfold opsN at ho
  split at ho
  ·rcases List.mem_append.1 ho with ho | ho
   ·exact ih (by omega) o ho
   ·rw [List.mem_singleton] at ho
    subst ho
    exact opN_good _ (fun o ho => (ih (by omega) o ho).ok) (by have := opsN_len xs i; omega)
  ·exact ih (by omega) o ho
/-- The roll behind the first operations, those of them done that may be, or all. -/
def madeN (l : List OpI) (all : Bool) : Nat → RS
 | 0 => RS.new
 | i + 1 => if all = true ∨ (madeN l all i).may (l.getD i opZ) = 0 then (madeN l all i).act (l.getD i opZ) ((l.getD i opZ).name i) else madeN l all i
theorem act_good {s : RS} {k : Nat} (hs : s.Ok k) {o : OpI} (ho : o.Good) : (s.act o (o.name k)).Ok (k + 1) :=
 act_ok hs ho.ok _ (Nat.lt_succ_self k) fun h9 => ⟨(ho.gd h9).1, (ho.gd h9).2, by show (k : Int) < (k : Int) + 1; omega, by show (k : Int) + 1 ≤ ((k + 1 : Nat) : Int); omega⟩
theorem madeN_ok {l : List OpI} (hl : ∀ o ∈ l, o.Good) (all : Bool) : ∀ i, i ≤ l.length → (madeN l all i).Ok i := by
 intro i
 induction i with
 | zero => intro _; exact new_ok 0
 | succ i ih =>
  intro hi
  have hs := ih (by omega)
  have hil : i < l.length := by omega
  have hm : l.getD i opZ ∈ l := by
   rw [List.getD_eq_getElem?_getD, List.getElem?_eq_getElem hil]
   exact List.getElem_mem hil
  unfold madeN
  split
  ·exact act_good hs (hl _ hm)
  ·exact hs.mono (Nat.le_succ _)
end Go.Proofs.YtkolilbebkkpdaaDoor

namespace Go.Proofs.YtkolilbebkkpdaaDoor
open Go.RowKit Go.Maps Go.BigFrame

theorem zero_id (w : World) : (zeroValue 34).run Tryd.prog w = .ok (.agg #[.int .i64 0, .int .i64 0, .int .u64 0]) w := by kernel_rfl
theorem run_allocId (w : World) : (Instr.alloc 34 true (.tuple #[])).run Tryd.prog w = .ok (.pointer (some ⟨w.heap.size, 0, none⟩)) (w.alloc (.cells #[.int .i64 0, .int .i64 0, .int .u64 0] 34)) := by
 unfold Instr.alloc
 rw [Sem.run_bind, zero_id]
 rfl
theorem wp_allocId {o : Oper} {a : Act} {w : World} {K : Act → World → Prop} {Q : Exit → Act → World → Prop} (hop : o.op = .alloc 34) (h : K (a.put o.dst (.pointer (some ⟨w.heap.size, 0, none⟩))) (w.alloc (.cells #[.int .i64 0, .int .i64 0, .int .u64 0] 34))) : o.wp Tryd.prog a w K Q := by
 unfold Oper.wp
 have e : (execOp a.eval o).run Tryd.prog w = .ok (.value (.pointer (some ⟨w.heap.size, 0, none⟩))) (w.alloc (.cells #[.int .i64 0, .int .i64 0, .int .u64 0] 34)) := by
  unfold execOp
  simp only [hop, Sem.run_bind, run_allocId, Result.andThen_ok, Sem.run_pure]
 rw [e]
 exact h
theorem wp_storeId {o : Oper} {a : Act} {w : World} {K : Act → World → Prop} {Q : Exit → Act → World → Prop} (x y : Operand) (hop : o.op = .store 34 x y) {i : Idn} (hx : a.eval x = .pointer (some ⟨w.heap.size, 0, none⟩)) (hy : a.eval y = .agg #[.int .i64 i.b, .int .i64 i.s, .int .u64 i.u])
  (h : K (a.put o.dst undef) (w.alloc (.cells #[.int .i64 i.b, .int .i64 i.s, .int .u64 i.u] 34))) : o.wp Tryd.prog a (w.alloc (.cells #[.int .i64 0, .int .i64 0, .int .u64 0] 34)) K Q := by
 unfold Oper.wp
 have e : (execOp a.eval o).run Tryd.prog (w.alloc (.cells #[.int .i64 0, .int .i64 0, .int .u64 0] 34)) = .ok .skip (w.alloc (.cells #[.int .i64 i.b, .int .i64 i.s, .int .u64 i.u] 34)) := by
  unfold execOp
  have := run_storeVar_new (P := Tryd.prog) w 34 #[.int .i64 0, .int .i64 0, .int .u64 0] #[.int .i64 i.b, .int .i64 i.s, .int .u64 i.u] (by kernel_rfl) rfl (by simp [Value.oneCell'])
  simp only [hop, hx, hy, Instr.storeAt, Instr.sureAddr, Sem.run_bind, Sem.run_pure, Result.andThen_ok, this]
 rw [e]
 exact h
/-- A slice literal, in a region that draws its order. -/
theorem wp_rowTo {P : Program} {o : Oper} {a : Act} {w : World} {K : Act → World → Prop} {Q : Exit → Act → World → Prop} (t e : TypeId) (len : Nat) (parts : Array (Nat × Operand)) (ho : o.op = .buildSlice t len parts) (hu : P.underlying t = some (.slice e)) (cells : Array Value)
  (hf : P.builtSlice e len (parts.map fun (i, x) => (i, a.eval x)).toList = some cells)
  (h : K (a.put o.dst (.slice (some ⟨w.heap.size, 0, none⟩) len len)) (w.alloc (.cells cells e))) : o.wp P a w K Q := by
 unfold Program.builtSlice at hf
 cases hie : P.info? e with
 | none => simp [hie] at hf
 | some ie =>
  simp only [hie] at hf
  cases hz : ie.zero with
  | none => simp [hz] at hf
  | some z =>
   simp only [hz] at hf
   by_cases hc : len * ie.size > 2 ^ 24 ∨ len * ie.size = 0
   ·simp [hc] at hf
   ·rw [if_neg hc] at hf
    exact Go.wp_buildSlice t e len parts ho cells ie z hu hie hz (fun h' => hc (Or.inl h')) (fun h' => hc (Or.inr h')) hf h
theorem wrapS {n : Int} (h0 : 0 ≤ n) (h1 : n < 9000000000000000000) : IntKind.i64.wrap n = n := by
 simp [IntKind.wrap, IntKind.bits, IntKind.signed]
 omega
theorem OpAt.setI {w : World} {b : Nat} {o : OpI} {gp : Option Addr} {gc : Nat} (h : OpAt w b o gp gc) (i : Nat) (v : Value) (o' : OpI) (gp' : Option Addr) (gc' : Nat) (he : (opC o gp gc).setIfInBounds i v = opC o' gp' gc') : OpAt (w.setCell ⟨b, i, none⟩ v) b o' gp' gc' := by
 unfold OpAt at h ⊢
 show (w.heap.modify b _)[b]? = _
 rw [Array.getElem?_modify, if_pos rfl, h, ← he]
 rfl
theorem grown_row (W : World) (b : Nat) (cs : Array Value) : W.grownBy (W.setRow b cs) (some b) := by
 refine ⟨rfl, rfl, rfl, by simp [World.setRow], fun k _ hk => ?_⟩
 show (W.heap.modify b _)[k]? = _
 rw [Array.getElem?_modify, if_neg (fun e => hk (by rw [e]))]
theorem OpAt.setAll {w : World} {b : Nat} {o : OpI} {gp : Option Addr} {gc : Nat} (h : OpAt w b o gp gc) (o' : OpI) (gp' : Option Addr) (gc' : Nat) : OpAt (w.setRow b (opC o' gp' gc')) b o' gp' gc' :=
 setRow_heap w b _ _ _ _ h
theorem IdAt.setAll {w : World} {b : Nat} {i : Idn} (h : IdAt w b i) (j : Idn) : IdAt (w.setRow b #[.int .i64 j.b, .int .i64 j.s, .int .u64 j.u]) b j :=
 setRow_heap w b _ _ _ _ h
/-- Of. -/
theorem OpAt.setF {w : World} {b : Nat} {o : OpI} {gp : Option Addr} {gc : Nat} (h : OpAt w b o gp gc) (f : Idn) : OpAt (w.setCells b 16 [.int .i64 f.b, .int .i64 f.s, .int .u64 f.u]) b ⟨o.b, o.s, o.k, o.a, o.d, o.o, o.m, o.r, f, o.gs, o.n, o.t⟩ gp gc :=
 ((h.setI 16 (.int .i64 f.b) ⟨o.b, o.s, o.k, o.a, o.d, o.o, o.m, o.r, ⟨f.b, o.f.s, o.f.u⟩, o.gs, o.n, o.t⟩ gp gc rfl).setI 17 (.int .i64 f.s) ⟨o.b, o.s, o.k, o.a, o.d, o.o, o.m, o.r, ⟨f.b, f.s, o.f.u⟩, o.gs, o.n, o.t⟩ gp gc rfl).setI 18 (.int .u64 f.u) _ gp gc rfl
theorem grown_cells (W : World) (b : Nat) : ∀ (vs : List Value) (o : Nat), W.grownBy (W.setCells b o vs) (some b) := by
 intro vs
 induction vs generalizing W with
 | nil => intro o; exact ⟨rfl, rfl, rfl, Nat.le_refl _, fun _ _ _ => rfl⟩
 | cons v vs ih =>
  intro o
  have h1 := grown_cell W b o v
  have h2 := ih (W.setCell ⟨b, o, none⟩ v) (o + 1)
  exact ⟨h2.os.trans h1.os, h2.tape.trans h1.tape, h2.output.trans h1.output, Nat.le_trans h1.size h2.size, fun i hi hne => (h2.block i (Nat.lt_of_lt_of_le hi h1.size) hne).trans (h1.block i hi hne)⟩
theorem OpAt.there {w : World} {b : Nat} {o : OpI} {gp : Option Addr} {gc : Nat} (h : OpAt w b o gp gc) (k m : Nat) (hk : k + m ≤ 27) : w.there b k m := fun j hj => by
 refine ⟨?_, h.free _⟩
 rw [h.cell]
 have hs : (opC o gp gc).size = 27 := rfl
 rw [Array.getElem?_eq_getElem (by omega)]
 rfl
/-- A name of a list, loaded whole. -/
theorem wpL_loadI {ops : Array Oper} {rest : List Oper} {o : Oper} {a : Act} {w : World} {Q : Exit → Act → World → Prop} (hgd : o.guard = none) (x : Operand) (ho : o.op = .load 34 x) (b k : Nat) (hx : a.eval x = .pointer (some ⟨b, k, none⟩))
  (i : Idn) (hc : ∀ j u, (idE.c i)[j]? = some u → w.cell? ⟨b, k + j, none⟩ = some u) (h : wpList Tryd.prog ops Q rest (a.put o.dst (.agg #[.int .i64 i.b, .int .i64 i.s, .int .u64 i.u])) w) : wpList Tryd.prog ops Q (o :: rest) a w :=
 wpList_load_mid hgd 34 x ho b k hx (idE.c i) _ hc Tryd.underlying34 rfl (by kernel_rfl) h
/-- Where the making of an operation stands: the numbers, the name, the result's variable. -/
structure OpSt (w : World) (b off : Nat) (k1 k2 k3 : Int) (bf : Nat) (f : Idn) (W : World) : Prop where
 c1 : W.cell? ⟨b, off + 1, none⟩ = some (.int .i64 k1)
 c2 : W.cell? ⟨b, off + 2, none⟩ = some (.int .i64 k2)
 c3 : W.cell? ⟨b, off + 3, none⟩ = some (.int .i64 k3)
 f : IdAt W bf f
 z : OpAt W w.heap.size eZ none 0
 hb : Below w.heap.size w W
theorem OpSt.grown {w : World} {b off : Nat} {k1 k2 k3 : Int} {bf : Nat} {f : Idn} {W W' : World} {bo : Nat} (h : OpSt w b off k1 k2 k3 bf f W) (hg : W.grownBy W' (some bo)) (h1 : b ≠ bo) (h2 : bf ≠ bo) (h3 : w.heap.size < bo) : OpSt w b off k1 k2 k3 bf f W' := by
 have hc : ∀ i v, W.cell? ⟨b, i, none⟩ = some v → W'.cell? ⟨b, i, none⟩ = some v := fun i v hv => (hg.cell_far ⟨b, i, none⟩ (cell_lt hv) (fun e => h1 (by injection e))).trans hv
 exact ⟨hc _ _ h.c1, hc _ _ h.c2, hc _ _ h.c3, h.f.block (hg.block bf h.f.lt (fun e => h2 (by injection e))), h.z.block (hg.block _ (cell_lt h.z.cb) (fun e => by injection e with e; omega)), h.hb.grown hg h.hb.size (fun g e => by injection e with e; omega)⟩
theorem OpSt.below {w : World} {b off : Nat} {k1 k2 k3 : Int} {bf : Nat} {f : Idn} {W W' : World} (h : OpSt w b off k1 k2 k3 bf f W) (hb : Below W.heap.size W W') : OpSt w b off k1 k2 k3 bf f W' :=
 ⟨(hb.cell (p := ⟨b, _, none⟩) (cell_lt h.c1)).trans h.c1, (hb.cell (p := ⟨b, _, none⟩) (cell_lt h.c2)).trans h.c2, (hb.cell (p := ⟨b, _, none⟩) (cell_lt h.c3)).trans h.c3, h.f.below hb, h.z.below hb (cell_lt h.z.cb), h.hb.trans (hb.mono h.hb.size)⟩
theorem OpSt.setName {w : World} {b off : Nat} {k1 k2 k3 : Int} {bf : Nat} {f : Idn} {W : World} (h : OpSt w b off k1 k2 k3 bf f W) (f' : Idn) (h1 : b ≠ bf) (h3 : w.heap.size < bf) : OpSt w b off k1 k2 k3 bf f' (W.setRow bf #[.int .i64 f'.b, .int .i64 f'.s, .int .u64 f'.u]) := by
 have hg := grown_row W bf #[.int .i64 f'.b, .int .i64 f'.s, .int .u64 f'.u]
 have hc : ∀ i v, W.cell? ⟨b, i, none⟩ = some v → (W.setRow bf #[.int .i64 f'.b, .int .i64 f'.s, .int .u64 f'.u]).cell? ⟨b, i, none⟩ = some v := fun i v hv => (hg.cell_far ⟨b, i, none⟩ (cell_lt hv) (fun e => h1 (by injection e))).trans hv
 exact ⟨hc _ _ h.c1, hc _ _ h.c2, hc _ _ h.c3, h.f.setAll f', h.z.block (hg.block _ (cell_lt h.z.cb) (fun e => by injection e with e; omega)), h.hb.grown hg h.hb.size (fun g e => by injection e with e; omega)⟩
/-- The rows of guards. -/
structure Rows6 (w W : World) : Prop where
 u0 : UI W (some ⟨w.heap.size, 0, none⟩) 2 [1, 2]
 u1 : UI W (some ⟨w.heap.size + 1, 0, none⟩) 2 [2, 3]
 u2 : UI W (some ⟨w.heap.size + 1 + 1, 0, none⟩) 3 [1, 2, 3]
 u3 : UI W (some ⟨w.heap.size + 1 + 1 + 1, 0, none⟩) 1 [1]
 u4 : UI W (some ⟨w.heap.size + 1 + 1 + 1 + 1, 0, none⟩) 1 [2]
 row : W.heap[w.heap.size + 1 + 1 + 1 + 1 + 1]? = some (.cells #[.slice (some ⟨w.heap.size, 0, none⟩) 2 2, .slice (some ⟨w.heap.size + 1, 0, none⟩) 2 2, .slice (some ⟨w.heap.size + 1 + 1, 0, none⟩) 3 3, .slice (some ⟨w.heap.size + 1 + 1 + 1, 0, none⟩) 1 1, .slice (some ⟨w.heap.size + 1 + 1 + 1 + 1, 0, none⟩) 1 1] 22 (0, 0))
 hb : Below w.heap.size w W
 sz : W.heap.size = w.heap.size + 6
theorem Rows6.made (w : World) : Rows6 w ((((((w.alloc (.cells #[.int .i64 1, .int .i64 2] 3)).alloc (.cells #[.int .i64 2, .int .i64 3] 3)).alloc (.cells #[.int .i64 1, .int .i64 2, .int .i64 3] 3)).alloc (.cells #[.int .i64 1] 3)).alloc (.cells #[.int .i64 2] 3)).alloc (.cells #[.slice (some ⟨w.heap.size, 0, none⟩) 2 2, .slice (some ⟨w.heap.size + 1, 0, none⟩) 2 2, .slice (some ⟨w.heap.size + 1 + 1, 0, none⟩) 3 3, .slice (some ⟨w.heap.size + 1 + 1 + 1, 0, none⟩) 1 1, .slice (some ⟨w.heap.size + 1 + 1 + 1 + 1, 0, none⟩) 1 1] 22)) := by
 have u0 : UI (w.alloc (.cells #[.int .i64 1, .int .i64 2] 3)) (some ⟨w.heap.size, 0, none⟩) 2 [1, 2] := UI.row w [1, 2] (by decide)
 have b0 := Below.lit w (.cells #[.int .i64 1, .int .i64 2] 3)
 have u1 : UI ((w.alloc (.cells #[.int .i64 1, .int .i64 2] 3)).alloc (.cells #[.int .i64 2, .int .i64 3] 3)) (some ⟨(w.alloc (.cells #[.int .i64 1, .int .i64 2] 3)).heap.size, 0, none⟩) 2 [2, 3] := UI.row (w.alloc (.cells #[.int .i64 1, .int .i64 2] 3)) [2, 3] (by decide)
 have b1 := Below.lit (w.alloc (.cells #[.int .i64 1, .int .i64 2] 3)) (.cells #[.int .i64 2, .int .i64 3] 3)
 have u2 : UI (((w.alloc (.cells #[.int .i64 1, .int .i64 2] 3)).alloc (.cells #[.int .i64 2, .int .i64 3] 3)).alloc (.cells #[.int .i64 1, .int .i64 2, .int .i64 3] 3)) (some ⟨((w.alloc (.cells #[.int .i64 1, .int .i64 2] 3)).alloc (.cells #[.int .i64 2, .int .i64 3] 3)).heap.size, 0, none⟩) 3 [1, 2, 3] := UI.row ((w.alloc (.cells #[.int .i64 1, .int .i64 2] 3)).alloc (.cells #[.int .i64 2, .int .i64 3] 3)) [1, 2, 3] (by decide)
 have b2 := Below.lit ((w.alloc (.cells #[.int .i64 1, .int .i64 2] 3)).alloc (.cells #[.int .i64 2, .int .i64 3] 3)) (.cells #[.int .i64 1, .int .i64 2, .int .i64 3] 3)
 have u3 : UI ((((w.alloc (.cells #[.int .i64 1, .int .i64 2] 3)).alloc (.cells #[.int .i64 2, .int .i64 3] 3)).alloc (.cells #[.int .i64 1, .int .i64 2, .int .i64 3] 3)).alloc (.cells #[.int .i64 1] 3)) (some ⟨(((w.alloc (.cells #[.int .i64 1, .int .i64 2] 3)).alloc (.cells #[.int .i64 2, .int .i64 3] 3)).alloc (.cells #[.int .i64 1, .int .i64 2, .int .i64 3] 3)).heap.size, 0, none⟩) 1 [1] := UI.row (((w.alloc (.cells #[.int .i64 1, .int .i64 2] 3)).alloc (.cells #[.int .i64 2, .int .i64 3] 3)).alloc (.cells #[.int .i64 1, .int .i64 2, .int .i64 3] 3)) [1] (by decide)
 have b3 := Below.lit (((w.alloc (.cells #[.int .i64 1, .int .i64 2] 3)).alloc (.cells #[.int .i64 2, .int .i64 3] 3)).alloc (.cells #[.int .i64 1, .int .i64 2, .int .i64 3] 3)) (.cells #[.int .i64 1] 3)
 have u4 : UI (((((w.alloc (.cells #[.int .i64 1, .int .i64 2] 3)).alloc (.cells #[.int .i64 2, .int .i64 3] 3)).alloc (.cells #[.int .i64 1, .int .i64 2, .int .i64 3] 3)).alloc (.cells #[.int .i64 1] 3)).alloc (.cells #[.int .i64 2] 3)) (some ⟨((((w.alloc (.cells #[.int .i64 1, .int .i64 2] 3)).alloc (.cells #[.int .i64 2, .int .i64 3] 3)).alloc (.cells #[.int .i64 1, .int .i64 2, .int .i64 3] 3)).alloc (.cells #[.int .i64 1] 3)).heap.size, 0, none⟩) 1 [2] := UI.row ((((w.alloc (.cells #[.int .i64 1, .int .i64 2] 3)).alloc (.cells #[.int .i64 2, .int .i64 3] 3)).alloc (.cells #[.int .i64 1, .int .i64 2, .int .i64 3] 3)).alloc (.cells #[.int .i64 1] 3)) [2] (by decide)
 have b4 := Below.lit ((((w.alloc (.cells #[.int .i64 1, .int .i64 2] 3)).alloc (.cells #[.int .i64 2, .int .i64 3] 3)).alloc (.cells #[.int .i64 1, .int .i64 2, .int .i64 3] 3)).alloc (.cells #[.int .i64 1] 3)) (.cells #[.int .i64 2] 3)
 have b5 := Below.lit (((((w.alloc (.cells #[.int .i64 1, .int .i64 2] 3)).alloc (.cells #[.int .i64 2, .int .i64 3] 3)).alloc (.cells #[.int .i64 1, .int .i64 2, .int .i64 3] 3)).alloc (.cells #[.int .i64 1] 3)).alloc (.cells #[.int .i64 2] 3)) (.cells #[.slice (some ⟨w.heap.size, 0, none⟩) 2 2, .slice (some ⟨w.heap.size + 1, 0, none⟩) 2 2, .slice (some ⟨w.heap.size + 1 + 1, 0, none⟩) 3 3, .slice (some ⟨w.heap.size + 1 + 1 + 1, 0, none⟩) 1 1, .slice (some ⟨w.heap.size + 1 + 1 + 1 + 1, 0, none⟩) 1 1] 22)
 have h5 := World.alloc_heap_new (((((w.alloc (.cells #[.int .i64 1, .int .i64 2] 3)).alloc (.cells #[.int .i64 2, .int .i64 3] 3)).alloc (.cells #[.int .i64 1, .int .i64 2, .int .i64 3] 3)).alloc (.cells #[.int .i64 1] 3)).alloc (.cells #[.int .i64 2] 3)) (.cells #[.slice (some ⟨w.heap.size, 0, none⟩) 2 2, .slice (some ⟨w.heap.size + 1, 0, none⟩) 2 2, .slice (some ⟨w.heap.size + 1 + 1, 0, none⟩) 3 3, .slice (some ⟨w.heap.size + 1 + 1 + 1, 0, none⟩) 1 1, .slice (some ⟨w.heap.size + 1 + 1 + 1 + 1, 0, none⟩) 1 1] 22)
 have v0 := (((((u0.below b1).below b2).below b3).below b4).below b5)
 have v1 := ((((u1.below b2).below b3).below b4).below b5)
 have v2 := (((u2.below b3).below b4).below b5)
 have v3 := ((u3.below b4).below b5)
 have v4 := (u4.below b5)
 simp only [World.size_alloc] at v0 v1 v2 v3 v4 b0 b1 b2 b3 b4 b5 h5
 exact ⟨v0, v1, v2, v3, v4, h5, ((((b0.trans (b1.mono (by omega))).trans (b2.mono (by omega))).trans (b3.mono (by omega))).trans (b4.mono (by omega))).trans (b5.mono (by omega)), by simp⟩
theorem Rows6.at {w W : World} (h : Rows6 w W) {q : Nat} (hq : q < 5) : ∃ gb, W.cell? ⟨w.heap.size + 1 + 1 + 1 + 1 + 1, q, none⟩ = some (.slice (some ⟨gb, 0, none⟩) (rowsG.getD q []).length (rowsG.getD q []).length) ∧ UI W (some ⟨gb, 0, none⟩) (rowsG.getD q []).length (rowsG.getD q []) ∧ w.heap.size ≤ gb ∧ gb < W.heap.size := by
 have hz := h.sz
 have hc : ∀ i, W.cell? ⟨w.heap.size + 1 + 1 + 1 + 1 + 1, i, none⟩ = (#[.slice (some ⟨w.heap.size, 0, none⟩) 2 2, .slice (some ⟨w.heap.size + 1, 0, none⟩) 2 2, .slice (some ⟨w.heap.size + 1 + 1, 0, none⟩) 3 3, .slice (some ⟨w.heap.size + 1 + 1 + 1, 0, none⟩) 1 1, .slice (some ⟨w.heap.size + 1 + 1 + 1 + 1, 0, none⟩) 1 1] : Array Value)[i]? := fun i => by simp [World.cell?, h.row]
 have : q = 0 ∨ q = 1 ∨ q = 2 ∨ q = 3 ∨ q = 4 := by omega
 rcases this with rfl | rfl | rfl | rfl | rfl
 ·exact ⟨w.heap.size, hc 0, h.u0, by omega, by omega⟩
 ·exact ⟨w.heap.size + 1, hc 1, h.u1, by omega, by omega⟩
 ·exact ⟨w.heap.size + 1 + 1, hc 2, h.u2, by omega, by omega⟩
 ·exact ⟨w.heap.size + 1 + 1 + 1, hc 3, h.u3, by omega, by omega⟩
 ·exact ⟨w.heap.size + 1 + 1 + 1 + 1, hc 4, h.u4, by omega, by omega⟩
end Go.Proofs.YtkolilbebkkpdaaDoor

namespace Go.Proofs.YtkolilbebkkpdaaDoor
open Go.RowKit Go.Maps

theorem nth_ext {xs ys : List Int} (hl : xs.length = ys.length) (h : ∀ i, i < xs.length → nth xs i = nth ys i) : xs = ys := by
 refine List.ext_getElem hl fun i h1 h2 => ?_
 have := h i h1
 unfold nth at this
 rwa [List.getD_eq_getElem?_getD, List.getD_eq_getElem?_getD, List.getElem?_eq_getElem h1, List.getElem?_eq_getElem h2] at this
set_option maxRecDepth 100000 in
theorem SameInts_any (p q : Option Addr) (n m : Nat) (xs ys : List Int) (c d : Nat) (w : World) (hX : UI w p n xs) (hY : UI w q m ys) (hn : n ≤ 1000000) (hm : m ≤ 1000000) :
  Calls Tryd.prog 24 #[.slice p n c, .slice q m d] w fun e w' => e = .returned (.bool (decide (xs = ys))) ∧ Below w.heap.size w w' := by
 have hlx := Lib.hid hX.len
 have hly := Lib.hid hY.len
 obtain ⟨r, hr⟩ : ∃ r, Hid (decide (xs = ys) = r) := ⟨_, Lib.hid rfl⟩
 rw [hr.out]
 by_cases hnm : n = m
 ·subst hnm
  have hne : ((n : Int) != n) = false := bne_self_eq_false _
  go_enter Tryd.func24, Tryd.ntmps24
  go_wp2
  go_loopw [5] (fun i wr => ∃ k : Nat, k ≤ n ∧ i = .int .i64 k ∧ Hid (∀ j, j < k → nth xs j = nth ys j) ∧ Below w.heap.size w wr)
   (fun i _ => n - (intOf i).toNat)
  case atStart => exact ⟨0, Nat.zero_le _, rfl, Lib.hid (fun j hj => absurd hj (by omega)), Below.refl _ _⟩
  case round =>
   obtain ⟨k, hk, rfl, hall, hb⟩ := hrel
   by_cases hlt : k < n
   ·obtain ⟨b, off, rfl, _, hc1, _⟩ := (hX.below hb).look hlt
    obtain ⟨b', off', rfl, _, hc2, _⟩ := (hY.below hb).look hlt
    have hix1 : (0 : Int) ≤ (k : Int) := by omega
    have hix2 : (k : Int) < (n : Int) := by omega
    obtain ⟨x, hx⟩ : ∃ x, Hid (nth xs k = x) := ⟨_, Lib.hid rfl⟩
    obtain ⟨y, hy⟩ : ∃ y, Hid (nth ys k = y) := ⟨_, Lib.hid rfl⟩
    rw [hx.out] at hc1
    rw [hy.out] at hc2
    by_cases hxy : x = y
    ·subst hxy
     have t1 : (x != x) = false := bne_self_eq_false _
     go_wp2_with fail
     refine wp_region_still_lit (by kernel_rfl) (by kernel_rfl) ?_
     repeat still_step
     refine wpStill_nil ?_
     change Exit.then _ _ _ _ wr.drew
     clear hix1 hix2
     go_wp2
     go_roundw
     case rel => exact ⟨k + 1, by omega, by go_num, Lib.hid (fun j hj => by
      rcases Nat.lt_or_ge j k with h | h
      ·exact hall.out j h
      ·obtain rfl : j = k := by omega
       rw [hx.out, hy.out]), hb.drew⟩
     case measure => simp [intOf]; omega
    ·have t1 : (x != y) = true := by simpa using hxy
     have hrf : Hid (r = false) := Lib.hid (by
      rw [← hr.out]
      refine decide_eq_false fun e => hxy ?_
      rw [← hx.out, ← hy.out, e])
     replace hxy := Lib.hid hxy
     go_wp2_with fail
     refine wp_region_still_lit (by kernel_rfl) (by kernel_rfl) ?_
     repeat still_step
     refine wpStill_nil ?_
     change Exit.then _ _ _ _ wr.drew
     clear hix1 hix2
     go_wp2
     go_ret
     exact ⟨ret_bool (b := r) hrf.out.symm, hb.drew⟩
   ·have hkn : k = n := by omega
    have hrt : Hid (r = true) := Lib.hid (by
     rw [← hr.out]
     exact decide_eq_true (nth_ext (hlx.out.trans hly.out.symm) fun i hi => hall.out i (by have := hlx.out; omega)))
    go_wp2
    go_ret
    exact ⟨ret_bool (b := r) hrt.out.symm, hb⟩
 ·have hne : ((n : Int) != (m : Int)) = true := by simpa using fun h => hnm (by omega)
  have hrf : Hid (r = false) := Lib.hid (by
   rw [← hr.out]
   refine decide_eq_false fun e => hnm ?_
   rw [← hlx.out, ← hly.out, e])
  replace hnm := Lib.hid hnm
  go_enter Tryd.func24, Tryd.ntmps24
  go_wp2
  go_ret
  exact ⟨ret_bool (b := r) hrf.out.symm, Below.refl _ _⟩
end Go.Proofs.YtkolilbebkkpdaaDoor

