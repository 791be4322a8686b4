/-
  Chains of unlike secrets, played alike, have the same shape; plain Lean. A chain got back.
-/
import Derived.Test.YtcnhgkgabddjmaaChT
namespace Go.Proofs.Ytcnhgkgabddjmaa
open Go.RowKit Go.Maps

/-- Two chains of one shape. -/
structure Shp (a b : Ch) : Prop where
  num : a.num = b.num
  st : a.st = 0 ↔ b.st = 0
  keys : numsK a.ks = numsK b.ks
theorem Shp.refl (a : Ch) : Shp a a := ⟨rfl, Iff.rfl, rfl⟩
theorem numsK_drop (ks : List (Int × Int)) (k : Int) : numsK (dropK ks k) = (numsK ks).filter (fun x => x != k) := by
  unfold numsK dropK
  rw [List.filter_map]; rfl
theorem Shp.len {a b : Ch} (h : Shp a b) : a.ks.length = b.ks.length := by
  have := congrArg List.length h.keys
  unfold numsK at this
  rwa [List.length_map, List.length_map] at this
theorem Shp.fill {a b : Ch} (h : Shp a b) (j : Nat) : (a.fill j).num = (b.fill j).num ∧ numsK (a.fill j).ks = numsK (b.fill j).ks := by
  induction j with
  | zero => exact ⟨h.num, h.keys⟩
  | succ j ih =>
    refine ⟨?_, ?_⟩
    · show (a.fill j).num + 1 = (b.fill j).num + 1
      rw [ih.1]
    · show numsK ((a.fill j).ks ++ [_]) = numsK ((b.fill j).ks ++ [_])
      have := ih.2
      unfold numsK at this ⊢
      rw [List.map_append, List.map_append, this, ih.1]
      simp only [List.map_cons, List.map_nil]
theorem Shp.val {a b : Ch} (h : Shp a b) (k : Int) : (valK a.ks k).isSome = (valK b.ks k).isSome := by
  have h1 := valK_some_iff a.ks k
  have h2 := valK_some_iff b.ks k
  rw [h.keys] at h1
  cases e1 : (valK a.ks k).isSome <;> cases e2 : (valK b.ks k).isSome
  · rfl
  · exact absurd (h1.2 (h2.1 e2)) (by rw [e1]; decide)
  · exact absurd (h2.2 (h1.1 e1)) (by rw [e2]; decide)
  · rfl
theorem step_nz (c : Ch) : c.step.st ≠ 0 := by
  have := secI_bd nextL [c.st]
  show secI nextL [c.st] ≠ 0
  omega
theorem Shp.ask {a b : Ch} (h : Shp a b) (n : Int) : Shp (a.ask n).1 (b.ask n).1 := by
  by_cases hs : a.st = 0
  · rw [Ch.ask_zero n hs, Ch.ask_zero n (h.st.1 hs)]; exact h
  · have hs2 : b.st ≠ 0 := fun e => hs (h.st.2 e)
    have hv := h.val n
    cases e1 : valK a.ks n with
    | some v =>
      rw [e1] at hv
      cases e2 : valK b.ks n with
      | some u =>
        rw [Ch.ask_some hs e1, Ch.ask_some hs2 e2]
        exact ⟨h.num, h.st, by show numsK (dropK _ _) = numsK (dropK _ _); rw [numsK_drop, numsK_drop, h.keys]⟩
      | none => rw [e2] at hv; cases hv
    | none =>
      rw [e1] at hv
      cases e2 : valK b.ks n with
      | some u => rw [e2] at hv; cases hv
      | none =>
        have hl := h.len
        have hm := h.num
        by_cases hn : n < a.num
        · rw [Ch.ask_used hs e1 hn, Ch.ask_used hs2 e2 (by omega)]; exact h
        · by_cases hf : 50 - (a.ks.length : Int) < n - a.num
          · rw [Ch.ask_full hs e1 hn hf, Ch.ask_full hs2 e2 (by omega) (by omega)]; exact h
          · rw [Ch.ask_ok hs e1 hn hf, Ch.ask_ok hs2 e2 (by omega) (by omega)]
            rw [← hm]
            obtain ⟨f1, f2⟩ := h.fill (n - a.num).toNat
            exact ⟨by show (a.fill _).num + 1 = (b.fill _).num + 1; rw [f1], ⟨fun e => absurd e (step_nz _), fun e => absurd e (step_nz _)⟩, f2⟩
theorem Shp.act {a b : Ch} (h : Shp a b) (x : Int × Int) : Shp (a.act x).1 (b.act x).1 := by
  unfold Ch.act
  split
  · unfold Ch.next
    by_cases hs : a.st = 0
    · rw [if_pos hs, if_pos (h.st.1 hs)]; exact h
    · rw [if_neg hs, if_neg (fun e => hs (h.st.2 e))]
      exact ⟨by show a.num + 1 = b.num + 1; rw [h.num], ⟨fun e => absurd e (step_nz _), fun e => absurd e (step_nz _)⟩, h.keys⟩
  · split
    · exact ⟨h.num, ⟨fun _ => rfl, fun _ => rfl⟩, rfl⟩
    · exact h.ask x.2
theorem Shp.acts (l : List (Int × Int)) : ∀ {a b : Ch}, Shp a b → Shp (a.acts l) (b.acts l) := by
  induction l with
  | nil => intro a b h; exact h
  | cons x l ih => intro a b h; exact ih (h.act x)
theorem Shp.new (e f d : Int) : Shp (Ch.new e d) (Ch.new f d) := by
  have h1 := secI_bd chainL [e, d]
  have h2 := secI_bd chainL [f, d]
  refine ⟨rfl, ⟨fun h => ?_, fun h => ?_⟩, rfl⟩
  · have h : secI chainL [e, d] = 0 := h; omega
  · have h : secI chainL [f, d] = 0 := h; omega
theorem fine_shut (m : Ch) (h : m.num ≤ 1073741824) : m.shut.Fine := ⟨Ch.Ok.shut m, h, fun _ => rfl⟩
/-- Get of a chain's bytes. -/
theorem Get_of (p : Option Addr) (n cp : Nat) (m : Ch) (w : World) (hB : B8 w p n (putB m)) (hp : p = none → cp = 0) (hn : n ≤ 1000000) (hm : m.Fine) :
    Calls Try.prog 30 #[.slice p n cp] w fun e w' => ∃ c b, e = .returned (.tuple #[.pointer (some ⟨c, 0, none⟩), .int .i64 0]) ∧ ChAt w' c b m ∧ w.heap.size ≤ c ∧ w.heap.size ≤ b ∧ c ≠ b ∧ Below w.heap.size w w' := by
  obtain ⟨h1, h2⟩ := get_put hm
  refine (Get_any p n cp _ w hB hp hn).mono ?_
  rintro e w' ⟨h3, _, h4⟩
  obtain ⟨c, b, rfl, h5, h6, h7, h8⟩ := h3 h1
  rw [h2] at h5
  exact ⟨c, b, rfl, h5, h6, h7, h8, h4⟩
end Go.Proofs.Ytcnhgkgabddjmaa
