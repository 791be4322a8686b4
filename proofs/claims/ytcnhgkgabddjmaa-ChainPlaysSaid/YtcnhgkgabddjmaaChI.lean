/-
  Chains of keys (8); plain Lean: a chain that was asked for some numbers.
-/
import Derived.Test.YtcnhgkgabddjmaaChA
namespace Go.Proofs.Ytcnhgkgabddjmaa
open Go.RowKit

/-- The state behind n steps, and its key. -/
def stN (s : Int) : Nat → Int
  | 0 => s
  | n + 1 => secI nextL [stN s n]
def keyN (s : Int) (n : Nat) : Int := secI msgL [stN s n]
theorem stN_ne {s : Int} (h : s ≠ 0) (n : Nat) : stN s n ≠ 0 := by
  cases n with
  | zero => exact h
  | succ n => have := secI_bd nextL [stN s n]; show secI nextL [stN s n] ≠ 0; omega
theorem keyN_bd (s : Int) (n : Nat) : 1 ≤ keyN s n ∧ keyN s n ≤ 2305843009213693949 := secI_bd _ _
theorem fill_st_eq {s : Int} {m : Ch} (h : m.st = stN s m.num) (j : Nat) : (m.fill j).st = stN s (m.num + j) := by
  induction j with
  | zero => exact h
  | succ j ih => show secI nextL [(m.fill j).st] = secI nextL [stN s (m.num + j)]; rw [ih]
theorem fill_key_eq {s : Int} {m : Ch} (h : m.st = stN s m.num) (j : Nat) : (m.fill j).key = keyN s (m.num + j) := by
  unfold Ch.key keyN; rw [fill_st_eq h]
theorem Ch.Ok.fill_new {m : Ch} (h : m.Ok) (j : Nat) : ∀ k : Int, m.num + j ≤ k → valK (m.fill j).ks k = none := by
  induction j with
  | zero => intro k hk; exact valK_none fun p hp e => by have := h.low p hp; omega
  | succ j ih =>
    intro k hk
    show valK ((m.fill j).ks ++ [(((m.fill j).num : Int), (m.fill j).key)]) k = none
    have e := Ch.fill_num m j
    rw [valK_snoc _ _ _ _ (ih _ (by omega)), if_neg (by omega)]
    exact ih k (by omega)
theorem fill_val {s : Int} {m : Ch} (hok : m.Ok) (h : m.st = stN s m.num) (j : Nat) (k : Int) : valK (m.fill j).ks k = if (m.num : Int) ≤ k ∧ k < m.num + j then some (keyN s k.toNat) else valK m.ks k := by
  induction j with
  | zero => rw [if_neg (by omega)]; rfl
  | succ j ih =>
    show valK ((m.fill j).ks ++ [(((m.fill j).num : Int), (m.fill j).key)]) k = _
    have e := Ch.fill_num m j
    rw [valK_snoc _ _ _ _ (hok.fill_new j _ (by omega)), ih]
    by_cases h1 : k = ((m.fill j).num : Int)
    · rw [if_pos h1, if_pos (by omega), fill_key_eq h]
      congr 2
      omega
    · rw [if_neg h1]
      by_cases h2 : (m.num : Int) ≤ k ∧ k < m.num + j
      · rw [if_pos h2, if_pos (by omega)]
      · rw [if_neg h2, if_neg (by omega)]
/-- A chain of a state that was asked for some numbers, once each. -/
structure Tk (s : Int) (had : List Int) (m : Ch) : Prop where
  ok : m.Ok
  st : m.st = stN s m.num
  ne : s ≠ 0
  val : ∀ k, valK m.ks k = if 0 ≤ k ∧ k < m.num ∧ k ∉ had then some (keyN s k.toNat) else none
  hads : ∀ x ∈ had, 0 ≤ x ∧ x < m.num
  few : m.ks.length ≤ m.num
  top : m.num = 0 ∨ ((m.num : Int) - 1) ∈ had
theorem Tk.new (e d : Int) : Tk (Ch.new e d).st [] (Ch.new e d) := by
  refine ⟨Ch.Ok.new e d, rfl, ?_, fun k => ?_, fun _ h => (by cases h), Nat.le_refl _, .inl rfl⟩
  · have := secI_bd chainL [e, d]; show secI chainL [e, d] ≠ 0; omega
  · show valK [] k = _
    rw [if_neg (by show ¬ (0 ≤ k ∧ k < ((0 : Nat) : Int) ∧ _); omega)]; rfl
theorem Tk.st_ne {s : Int} {had : List Int} {m : Ch} (h : Tk s had m) : m.st ≠ 0 := by rw [h.st]; exact stN_ne h.ne _
theorem Tk.used {s : Int} {had : List Int} {m : Ch} (h : Tk s had m) {n : Int} (hn : n ∈ had) : m.ask n = (m, 0, 24) :=
  Ch.ask_used h.st_ne (by rw [h.val, if_neg]; rintro ⟨_, _, h3⟩; exact h3 hn) (h.hads n hn).2
theorem Tk.tell {s : Int} {had : List Int} {m : Ch} (h : Tk s had m) {n : Int} (hn : n ∉ had) (h0 : 0 ≤ n) (h1 : n ≤ 50) : ∃ m', m.ask n = (m', keyN s n.toNat, 0) ∧ Tk s (had ++ [n]) m' ∧ (m'.num : Int) ≤ max (m.num : Int) (n + 1) := by
  by_cases hlt : n < m.num
  · refine ⟨⟨m.num, m.st, dropK m.ks n⟩, Ch.ask_some h.st_ne (by rw [h.val, if_pos ⟨h0, hlt, hn⟩]), ⟨h.ok.drop n, h.st, h.ne, fun k => ?_, fun x hx => ?_, Nat.le_trans (List.length_filter_le _ _) h.few, ?_⟩, by show (m.num : Int) ≤ _; omega⟩
    · change valK (dropK m.ks n) k = _
      rw [valK_drop, h.val]
      by_cases e : k = n
      · rw [if_pos e, if_neg]; rintro ⟨_, _, h3⟩; exact h3 (by rw [e]; simp)
      · rw [if_neg e]
        have : k ∉ had ++ [n] ↔ k ∉ had := by simp [e]
        simp only [this]
    · rcases List.mem_append.1 hx with hx | hx
      · exact h.hads x hx
      · rw [List.mem_singleton] at hx; subst hx; exact ⟨h0, hlt⟩
    · rcases h.top with h2 | h2
      · exact .inl h2
      · exact .inr (List.mem_append_left _ h2)
  · have hf := h.few
    have hv : valK m.ks n = none := by rw [h.val, if_neg]; omega
    obtain ⟨j, hj⟩ : ∃ j : Nat, n = m.num + j := ⟨(n - m.num).toNat, by omega⟩
    have hj' : (n - m.num).toNat = j := by omega
    have hno := fill_val h.ok h.st j
    have hnum := Ch.fill_num m j
    have hlen := Ch.fill_len m j
    refine ⟨(m.fill j).step, ?_, ⟨(h.ok.fill (by omega)).step, ?_, h.ne, fun k => ?_, fun x hx => ?_, ?_, ?_⟩, ?_⟩
    · rw [Ch.ask_ok h.st_ne hv hlt (by omega), hj', fill_key_eq h.st]
      congr 3
      omega
    · show secI nextL [(m.fill j).st] = stN s ((m.fill j).num + 1)
      rw [fill_st_eq h.st, hnum]; rfl
    · change valK (m.fill j).ks k = _
      have hM : (m.fill j).step.num = m.num + j + 1 := by show (m.fill j).num + 1 = _; omega
      simp only [hM]
      rw [hno]
      by_cases h2 : (m.num : Int) ≤ k ∧ k < m.num + j
      · rw [if_pos h2, if_pos]
        refine ⟨by omega, by omega, fun hm => ?_⟩
        rcases List.mem_append.1 hm with hm | hm
        · have := h.hads k hm; omega
        · rw [List.mem_singleton] at hm; omega
      · rw [if_neg h2, h.val]
        by_cases h3 : 0 ≤ k ∧ k < m.num ∧ k ∉ had
        · rw [if_pos h3, if_pos]
          refine ⟨h3.1, by omega, fun hm => ?_⟩
          rcases List.mem_append.1 hm with hm | hm
          · exact h3.2.2 hm
          · rw [List.mem_singleton] at hm; omega
        · rw [if_neg h3, if_neg]
          rintro ⟨h4, h5, h6⟩
          by_cases h7 : k = n
          · exact h6 (by rw [h7]; simp)
          · exact h3 ⟨h4, by omega, fun hm => h6 (List.mem_append_left _ hm)⟩
    · show 0 ≤ x ∧ x < (((m.fill j).num + 1 : Nat) : Int)
      rcases List.mem_append.1 hx with hx | hx
      · have := h.hads x hx; omega
      · rw [List.mem_singleton] at hx; omega
    · show (m.fill j).ks.length ≤ (m.fill j).num + 1
      omega
    · refine .inr (List.mem_append_right _ ?_)
      rw [List.mem_singleton]
      show (((m.fill j).num + 1 : Nat) : Int) - 1 = n
      omega
    · show (((m.fill j).num + 1 : Nat) : Int) ≤ _
      omega
/-- Who sends. -/
def sendN (s : Int) (n : Nat) : Ch := ⟨n, stN s n, []⟩
theorem send_next {s : Int} (h : s ≠ 0) (n : Nat) : (sendN s n).next = (sendN s (n + 1), (n : Int), keyN s n) := by
  unfold Ch.next
  rw [if_neg (show (sendN s n).st ≠ 0 from stN_ne h n)]
  rfl
theorem send_new (e d : Int) : Ch.new e d = sendN (Ch.new e d).st 0 := rfl
theorem sendN_ok {s : Int} (h : 1 ≤ s ∧ s ≤ 2305843009213693949) (n : Nat) : (sendN s n).Ok := by
  refine ⟨?_, List.Pairwise.nil, fun _ h => (by cases h), fun _ h => (by cases h), Nat.zero_le _⟩
  cases n with
  | zero => exact .inr h
  | succ n => exact .inr (secI_bd _ _)
end Go.Proofs.Ytcnhgkgabddjmaa
