/-
  Acts on a chain: the acts of numbers; Shut; what an act does.
-/
import Derived.Test.YtcnhgkgabddjmaaChAct
import Derived.Test.YtcnhgkgabddjmaaChK
import Derived.Handy
namespace Go.Proofs.Ytcnhgkgabddjmaa
open Go.RowKit Go.Maps

/-- The act of a number (its Do, its N). -/
def actOf (x : Int) : Int × Int :=
  (if around x 100000 % 8 = 0 ∨ around x 100000 % 8 = 1 then 1 else if around x 100000 % 8 = 4 ∧ around x 100000 / 8 % 9 = 0 then 2 else 0,
   if around x 100000 % 8 = 2 then around x 100000 / 8 % 70 else if around x 100000 % 8 = 3 then -(around x 100000 / 8 % 3) else around x 100000 / 8 % 14)
/-- An act that may be: what is done, and a small number. -/
def ActOk (a : Int × Int) : Prop := (a.1 = 0 ∨ a.1 = 1 ∨ a.1 = 2) ∧ -2 ≤ a.2 ∧ a.2 ≤ 69
theorem actOf_ok (x : Int) : ActOk (actOf x) := by
  obtain ⟨h0, h1⟩ := around_bd x 100000 (by omega)
  unfold ActOk actOf
  generalize around x 100000 = n at *
  refine ⟨?_, ?_⟩
  · dsimp only
    split
    · exact .inr (.inl rfl)
    · split
      · exact .inr (.inr rfl)
      · exact .inl rfl
  · dsimp only
    split
    · omega
    · split <;> omega
/-- The acts of numbers. -/
def actsOf (l : List Int) : List (Int × Int) := (l.take 16).map actOf
theorem actsOf_ok (l : List Int) : ∀ a ∈ actsOf l, ActOk a := fun a h => by
  obtain ⟨x, _, rfl⟩ := List.mem_map.1 h
  exact actOf_ok x
/-- What an act does to a chain, and tells. -/
def Ch.act (c : Ch) (a : Int × Int) : Ch × Int × Int × Int :=
  if a.1 = 1 then (c.next.1, c.next.2.1, c.next.2.2, 0)
  else if a.1 = 2 then (c.shut, 0, 0, 0)
  else ((c.ask a.2).1, 0, (c.ask a.2).2.1, (c.ask a.2).2.2)
theorem Ch.Ok.act {c : Ch} (h : c.Ok) (a : Int × Int) : (c.act a).1.Ok ∧ (c.act a).1.num ≤ c.num + 51 := by
  unfold Ch.act
  split
  · refine ⟨h.next, ?_⟩
    unfold Ch.next
    split
    · show c.num ≤ _; omega
    · show c.num + 1 ≤ _; omega
  · split
    · exact ⟨Ch.Ok.shut c, by show c.num ≤ _; omega⟩
    · exact h.ask a.2
def Ch.acts (c : Ch) : List (Int × Int) → Ch
  | [] => c
  | a :: l => ((c.act a).1).acts l
theorem Ch.acts_snoc (c : Ch) (l : List (Int × Int)) (a : Int × Int) : c.acts (l ++ [a]) = ((c.acts l).act a).1 := by
  induction l generalizing c with
  | nil => rfl
  | cons b l ih => exact ih _
theorem Ch.Ok.acts {c : Ch} (h : c.Ok) (l : List (Int × Int)) : (c.acts l).Ok ∧ (c.acts l).num ≤ c.num + 51 * l.length := by
  induction l generalizing c with
  | nil => exact ⟨h, by show c.num ≤ _; omega⟩
  | cons a l ih =>
    obtain ⟨h1, h2⟩ := h.act a
    obtain ⟨h3, h4⟩ := ih h1
    refine ⟨h3, ?_⟩
    show ((c.act a).1.acts l).num ≤ c.num + 51 * (l.length + 1)
    omega
theorem Ac.two {w w' : World} {c b : Nat} {p : Option Addr} {n : Nat} {xs : List (Int × Int)} (h : Ac w p n xs) (hT : Two w w' c b) (hf : ∀ a, p = some a → a.block ≠ c ∧ a.block ≠ b) : Ac w' p n xs := ⟨h.len, h.rd.two hT hf, h.bd⟩

theorem clear_run {w : World} {b : Nat} {es : Array MapEntry} {clock : Nat} (ty : TypeId) (hb : w.heap[b]? = some (.map es clock)) :
    ∃ w', (Builtin.clear_ #[69] ty #[.map (some b)]).run Try.prog w = .ok (.tuple #[]) w' ∧ w'.heap[b]? = some (.map #[] clock) ∧ w.grownBy w' (some b) := by
  refine ⟨_, by
    simp [Builtin.clear_, run_underlying Try.underlying69, MapKept.run_getObj_map hb, MapKept.run_setObj_map _ hb, Result.andThen]
    rfl, ?_, ?_⟩
  · exact (MapKept.heap_set hb).1
  · exact ⟨rfl, rfl, rfl, by simp, fun i _ hne => (MapKept.heap_set hb).2 i (fun e => hne (by rw [e]))⟩
theorem KeptM.clear {w : World} {b : Nat} {ks : List (Int × Int)} (ty : TypeId) (h : KeptM w b ks) :
    ∃ w', (Builtin.clear_ #[69] ty #[.map (some b)]).run Try.prog w = .ok (.tuple #[]) w' ∧ KeptM w' b [] ∧ w.grownBy w' (some b) := by
  obtain ⟨n, D, ⟨es, clock, hb, _, _, _⟩, _⟩ := h
  obtain ⟨w', h1, h2, h3⟩ := clear_run ty hb
  exact ⟨w', h1, ⟨0, .map [], ⟨#[], clock, h2, ⟨by simp, MapKept.stamped_empty _, by simp⟩, Nat.le_refl _, rfl⟩, KeptD.nil, Nat.le_refl _⟩, h3⟩
set_option maxRecDepth 100000 in
theorem Shut_any (c b : Nat) (m : Ch) (w : World) (hC : ChAt w c b m) :
    Calls Try.prog 32 #[.pointer (some ⟨c, 0, none⟩)] w fun e w' => e = .returned (.tuple #[]) ∧ ChAt w' c b m.shut ∧ Two w w' c b := by
  have f1 := hC.free 1
  have x1 := hC.c1
  have hP := hC.put (m' := ⟨m.num, 0, m.ks⟩) (i := 1) (u := .int .u64 0) rfl rfl
  have x2 := hP.c2
  obtain ⟨w', hr, hK, hg⟩ := hP.map.clear 0
  have hT := (Two.of_grown (grown_cell w c 1 (.int .u64 0)) (.inl rfl)).trans (Two.of_grown hg (.inr rfl) : Two _ _ c b)
  have hC' : ChAt w' c b m.shut := ⟨(hg.block c hP.lt (fun e => by injection e with e; exact hC.ne e.symm)).trans hP.blk, hK⟩
  go_enter Try.func32, Try.ntmps32
  go_wp2_with fail
  go_returns
  exact ⟨rfl, hC', hT⟩
end Go.Proofs.Ytcnhgkgabddjmaa
