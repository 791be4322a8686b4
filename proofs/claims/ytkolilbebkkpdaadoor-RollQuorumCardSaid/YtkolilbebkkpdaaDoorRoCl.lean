/-
  The closing of a law on rolls: what the listed table holds; a row of numbers opened.
-/
import Derived.Test.YtkolilbebkkpdaaDoorOpen
import Derived.Test.YtkolilbebkkpdaaDoorRoV
import Derived.Test.YtkolilbebkkpdaaDoorTie
import Derived.LaidMore
import Derived.Stop.Joined
import Derived.SevenTiedAt
namespace Go.Proofs.YtkolilbebkkpdaaDoor
open Go.ChangeShapes Go.WideShapes Go.ChangeAt Go.RowKit

theorem gAsks : Tryd.prog.globalNamed "huddle/roll.asks" = some 0 := by kernel_rfl
theorem tAsks : (Tryd.prog.globals[0]?).map (·.type) = some 97 := by kernel_rfl
theorem cellsFn : Tryd.prog.cellsOf 96 = 1 := by kernel_rfl
theorem cellsAsks : Tryd.prog.cellsOf 97 = 14 := by kernel_rfl
theorem nil_of_trod {H : Type} {enc : TypeId × Value → H} {P : Program} {w : World} {base : Nat} {sp : Nat → Bool} {held : Bool} {fuel : Nat} {t : TypeId} {ps rs : Array TypeId} {va : Bool} {v : Value} {q : List MemPlace}
    (ht : P.underlying t = some (.func ps rs va)) (h : DataW.trod enc P w base sp held fuel t [v] = some (.nil, q)) : v = .nilFunc := by
  cases fuel with
  | zero => simp [DataW.trod] at h
  | succ n =>
    cases v <;> simp [DataW.trod, ht] at h
    rfl
set_option maxRecDepth 100000 in
theorem asks_of_laid {W : World} {l : List (String × DataW Unit)} (hm : ("huddle/roll.asks", Rows.laid_huddle_roll_asks) ∈ l) (h : laidMetH Tryd.prog l W) : Asks W := by
  obtain ⟨g, t, cs, fuel, p, hg, ht, hv, hd⟩ := h.funcs hm
  obtain rfl := Option.some.inj (gAsks.symm.trans hg)
  obtain rfl := Option.some.inj (tAsks.symm.trans ht)
  obtain ⟨xs, m, _, ex, hlen, hl, hel⟩ := DataW.trod_array Tryd.underlying97 hd
  rw [cellsAsks] at hlen
  have ex1 := (Prod.mk.inj ex).1
  have hat : ∀ (i : Nat) (d : DataW (List UInt8)), i < 14 → (xs.map (·.1))[i]? = some d → ∃ v q, W.cell? ⟨0, i, none⟩ = some v ∧ DataW.trod (funcToken Tryd.prog) Tryd.prog W 0 (fun _ => true) true m 96 [v] = some (d, q) := by
    intro i d hi hd
    have h1 := hel i hi
    rw [cellsFn, Nat.mul_one] at h1
    have hi2 : i < xs.length := by omega
    rw [List.getElem?_map, List.getElem?_eq_getElem hi2] at hd
    have hd2 : xs[i].1 = d := by simpa using hd
    rw [List.getElem?_eq_getElem hi2] at h1
    have hic : i < cs.toList.length := by omega
    have h2 : (cs.toList.drop i).take 1 = [cs.toList[i]] := by
      rw [List.drop_eq_getElem_cons hic]; rfl
    rw [h2] at h1
    refine ⟨cs.toList[i], xs[i].2, ?_, ?_⟩
    · rw [World.var?_cell hg hv i, ← Array.getElem?_toList, List.getElem?_eq_getElem hic]
    · rw [h1, ← hd2]
  have ex2 := DataW.agg.inj ex1
  obtain ⟨v0, q0, c0, r0⟩ := hat 0 _ (by decide) (by rw [← ex2]; rfl)
  obtain rfl := nil_of_trod Tryd.underlying96 r0
  obtain ⟨v1, q1, c1, r1⟩ := hat 1 _ (by decide) (by rw [← ex2]; rfl)
  obtain rfl := nil_of_trod Tryd.underlying96 r1
  obtain ⟨v2, q2, c2, r2⟩ := hat 2 _ (by decide) (by rw [← ex2]; rfl)
  obtain rfl := func_of_trod (f0 := 121) Tryd.underlying96 (by kernel_rfl) r2
  obtain ⟨v3, q3, c3, r3⟩ := hat 3 _ (by decide) (by rw [← ex2]; rfl)
  obtain rfl := func_of_trod (f0 := 123) Tryd.underlying96 (by kernel_rfl) r3
  obtain ⟨v4, q4, c4, r4⟩ := hat 4 _ (by decide) (by rw [← ex2]; rfl)
  obtain rfl := nil_of_trod Tryd.underlying96 r4
  obtain ⟨v5, q5, c5, r5⟩ := hat 5 _ (by decide) (by rw [← ex2]; rfl)
  obtain rfl := func_of_trod (f0 := 124) Tryd.underlying96 (by kernel_rfl) r5
  obtain ⟨v6, q6, c6, r6⟩ := hat 6 _ (by decide) (by rw [← ex2]; rfl)
  obtain rfl := func_of_trod (f0 := 125) Tryd.underlying96 (by kernel_rfl) r6
  obtain ⟨v7, q7, c7, r7⟩ := hat 7 _ (by decide) (by rw [← ex2]; rfl)
  obtain rfl := nil_of_trod Tryd.underlying96 r7
  obtain ⟨v8, q8, c8, r8⟩ := hat 8 _ (by decide) (by rw [← ex2]; rfl)
  obtain rfl := func_of_trod (f0 := 126) Tryd.underlying96 (by kernel_rfl) r8
  obtain ⟨v9, q9, c9, r9⟩ := hat 9 _ (by decide) (by rw [← ex2]; rfl)
  obtain rfl := func_of_trod (f0 := 127) Tryd.underlying96 (by kernel_rfl) r9
  obtain ⟨v10, q10, c10, r10⟩ := hat 10 _ (by decide) (by rw [← ex2]; rfl)
  obtain rfl := func_of_trod (f0 := 130) Tryd.underlying96 (by kernel_rfl) r10
  obtain ⟨v11, q11, c11, r11⟩ := hat 11 _ (by decide) (by rw [← ex2]; rfl)
  obtain rfl := func_of_trod (f0 := 131) Tryd.underlying96 (by kernel_rfl) r11
  obtain ⟨v12, q12, c12, r12⟩ := hat 12 _ (by decide) (by rw [← ex2]; rfl)
  obtain rfl := func_of_trod (f0 := 130) Tryd.underlying96 (by kernel_rfl) r12
  obtain ⟨v13, q13, c13, r13⟩ := hat 13 _ (by decide) (by rw [← ex2]; rfl)
  obtain rfl := func_of_trod (f0 := 132) Tryd.underlying96 (by kernel_rfl) r13
  exact ⟨c0, c1, c2, c3, c4, c5, c6, c7, c8, c9, c10, c11, c12, c13⟩
/-- The door's own heap meets the condition. -/
theorem door_asks (os : Os) (args : Array Value) : laidMetH Tryd.prog [("huddle/roll.asks", Rows.laid_huddle_roll_asks)] ((World.doorLaid Tryd.prog 900 os).forCall (fun _ _ => 0) ⟨#[], args, []⟩).memory :=
  laidMetH_of_parts3 (fuel := 8) (laidMet_of_run' 8 (by kernel_rfl) (by kernel_rfl)) (by kernel_rfl) (by kernel_rfl)
end Go.Proofs.YtkolilbebkkpdaaDoor
