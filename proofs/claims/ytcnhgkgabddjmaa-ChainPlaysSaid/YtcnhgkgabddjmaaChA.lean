/-
  Chains of keys; plain Lean: states, keys, what is kept.
-/
import Derived.Test.YtcnhgkgabddjmaaHsE
import Derived.Maps.OwnOps
import Derived.Maps.Views
import Derived.Maps.OwnSet
import Derived.Maps.RangeWalk
namespace Go.Proofs.Ytcnhgkgabddjmaa
open Go.RowKit Go.Maps

/-- A sum as a secret. -/
def secI (lab : ByteArray) (xs : List Int) : Int := 1 + V (hashF (bytesI lab) xs) % 2305843009213693949
theorem secI_bd (lab : ByteArray) (xs : List Int) : 1 ≤ secI lab xs ∧ secI lab xs ≤ 2305843009213693949 := by unfold secI; omega
def chainL : ByteArray := { data := #[99, 104, 97, 105, 110] }
def msgL : ByteArray := { data := #[109, 115, 103] }
def nextL : ByteArray := { data := #[110, 101, 120, 116] }
/-- A chain: where it stands, its state (0: it is shut), the keys that it keeps, rising. -/
structure Ch where
  num : Nat
  st : Int
  ks : List (Int × Int)
def Ch.key (c : Ch) : Int := secI msgL [c.st]
def Ch.step (c : Ch) : Ch := ⟨c.num + 1, secI nextL [c.st], c.ks⟩
/-- The key of a number that is kept. -/
def valK (ks : List (Int × Int)) (k : Int) : Option Int := (ks.find? fun p => p.1 == k).map Prod.snd
def dropK (ks : List (Int × Int)) (k : Int) : List (Int × Int) := ks.filter fun p => p.1 != k
/-- So many steps on, all keys kept. -/
def Ch.fill (c : Ch) : Nat → Ch
  | 0 => c
  | m + 1 => ⟨(c.fill m).num + 1, secI nextL [(c.fill m).st], (c.fill m).ks ++ [(((c.fill m).num : Int), (c.fill m).key)]⟩
/-- The key of a number is asked: what becomes of the chain, the key, the error. -/
def Ch.ask (c : Ch) (n : Int) : Ch × Int × Int :=
  if c.st = 0 then (c, 0, 25)
  else match valK c.ks n with
    | some v => (⟨c.num, c.st, dropK c.ks n⟩, v, 0)
    | none =>
      if n < c.num then (c, 0, 24)
      else if 50 - (c.ks.length : Int) < n - c.num then (c, 0, 3)
      else ((c.fill (n - c.num).toNat).step, (c.fill (n - c.num).toNat).key, 0)
def Ch.next (c : Ch) : Ch × Int × Int := if c.st = 0 then (c, 0, 0) else (c.step, c.num, c.key)
def Ch.shut (c : Ch) : Ch := ⟨c.num, 0, []⟩
def Ch.new (e d : Int) : Ch := ⟨0, secI chainL [e, d], []⟩
/-- A chain that may be. -/
structure Ch.Ok (c : Ch) : Prop where
  st : c.st = 0 ∨ (1 ≤ c.st ∧ c.st ≤ 2305843009213693949)
  rise : c.ks.Pairwise fun p q => p.1 < q.1
  low : ∀ p, p ∈ c.ks → 0 ≤ p.1 ∧ p.1 < c.num
  val : ∀ p, p ∈ c.ks → 1 ≤ p.2 ∧ p.2 ≤ 2305843009213693949
  few : c.ks.length ≤ 50
theorem valK_nil (k : Int) : valK [] k = none := rfl
theorem valK_none {ks : List (Int × Int)} {k : Int} (h : ∀ p, p ∈ ks → p.1 ≠ k) : valK ks k = none := by
  unfold valK
  rw [List.find?_eq_none.2 fun p hp => by simpa using h p hp]; rfl
theorem valK_snoc (ks : List (Int × Int)) (k v j : Int) (h : valK ks k = none) : valK (ks ++ [(k, v)]) j = if j = k then some v else valK ks j := by
  unfold valK at h ⊢
  rw [List.find?_append]
  by_cases e : j = k
  · subst e
    rw [if_pos rfl]
    have h0 : ks.find? (fun p => p.1 == j) = none := by
      cases e2 : ks.find? (fun p => p.1 == j) with
      | none => rfl
      | some p => rw [e2] at h; cases h
    rw [h0]
    simp
  · rw [if_neg e]
    cases e2 : ks.find? (fun p => p.1 == j) with
    | none => simp; exact fun h => e h.symm
    | some p => simp
theorem valK_drop (ks : List (Int × Int)) (k j : Int) : valK (dropK ks k) j = if j = k then none else valK ks j := by
  unfold valK dropK
  induction ks with
  | nil => simp
  | cons p ks ih =>
    rw [List.filter_cons]
    by_cases hp : p.1 = k
    · have : (p.1 != k) = false := by rw [hp]; exact bne_self_eq_false _
      rw [this]
      simp only [Bool.false_eq_true, if_false]
      rw [ih]
      by_cases e : j = k
      · rw [if_pos e, if_pos e]
      · rw [if_neg e, if_neg e, List.find?_cons_of_neg]
        rw [hp]; simpa using fun h => e h.symm
    · have : (p.1 != k) = true := bne_iff_ne.2 hp
      rw [this]
      simp only [if_true]
      by_cases ej : p.1 = j
      · rw [List.find?_cons_of_pos (by simpa using ej), List.find?_cons_of_pos (by simpa using ej), if_neg (fun e => hp (ej.trans e))]
      · rw [List.find?_cons_of_neg (by simpa using ej), List.find?_cons_of_neg (by simpa using ej), ih]
/-- A map's datum that reads as what is kept. -/
structure KeptD (ks : List (Int × Int)) (D : DataW Unit) : Prop where
  tidy : Tidy D
  size : Maps.size D = ks.length
  has : ∀ k, Maps.has D (.int .i64 k) = (valK ks k).isSome
  at_ : ∀ k v z, valK ks k = some v → D.atKey (.int .i64 k) z = .lit (.int .u64 v)
theorem KeptD.nil : KeptD [] (.map []) := ⟨tidy_empty, rfl, fun k => rfl, fun k v z h => by cases h⟩
theorem KeptD.put {ks : List (Int × Int)} {D : DataW Unit} (h : KeptD ks D) (k v : Int) (hk : valK ks k = none) : KeptD (ks ++ [(k, v)]) (D.put (.int .i64 k) (.lit (.int .u64 v))) := by
  have hkey : WideAt.IsKeyLit (.int .i64 k) := trivial
  refine ⟨h.tidy.put hkey _, ?_, fun j => ?_, fun j u z hj => ?_⟩
  · rw [size_put h.tidy, h.has, hk, List.length_append, h.size]; rfl
  · rw [valK_snoc ks k v j hk]
    by_cases e : j = k
    · subst e; rw [if_pos rfl, has_put_same h.tidy.isMap hkey]; rfl
    · rw [if_neg e, has_put_other (by intro e2; injection e2; contradiction), h.has]
  · rw [valK_snoc ks k v j hk] at hj
    by_cases e : j = k
    · subst e
      rw [if_pos rfl] at hj
      injection hj with hj
      subst hj
      exact atKey_put_same h.tidy.isMap hkey _ _
    · rw [if_neg e] at hj
      rw [atKey_put_other (by intro e2; injection e2; contradiction)]
      exact h.at_ j u z hj
theorem dropK_len {ks : List (Int × Int)} (hr : ks.Pairwise fun p q => p.1 < q.1) (k : Int) : (dropK ks k).length + (if (valK ks k).isSome then 1 else 0) = ks.length := by
  induction ks with
  | nil => rfl
  | cons p ks ih =>
    obtain ⟨h1, h2⟩ := List.pairwise_cons.1 hr
    have ih := ih h2
    unfold dropK valK at ih ⊢
    rw [List.filter_cons]
    by_cases hp : p.1 = k
    · have e1 : (p.1 != k) = false := by rw [hp]; exact bne_self_eq_false _
      have e2 : ks.filter (fun q => q.1 != k) = ks := List.filter_eq_self.2 fun q hq => by
        have := h1 q hq
        rw [bne_iff_ne]; omega
      rw [e1, List.find?_cons_of_pos (by simpa using hp)]
      simp only [Bool.false_eq_true, if_false, e2]
      simp
    · have e1 : (p.1 != k) = true := bne_iff_ne.2 hp
      rw [e1, List.find?_cons_of_neg (by simpa using hp)]
      simp only [if_true, List.length_cons]
      omega
theorem KeptD.drop {ks : List (Int × Int)} {D : DataW Unit} (h : KeptD ks D) (hr : ks.Pairwise fun p q => p.1 < q.1) (k : Int) : KeptD (dropK ks k) (D.del (.int .i64 k)) := by
  refine ⟨h.tidy.del _, ?_, fun j => ?_, fun j u z hj => ?_⟩
  · have h1 := size_del h.tidy (k := .int .i64 k)
    have h2 := dropK_len hr k
    rw [h.has, h.size] at h1
    omega
  · rw [valK_drop]
    by_cases e : j = k
    · subst e; rw [if_pos rfl, has_del_same]; rfl
    · rw [if_neg e, has_del_other (by intro e2; injection e2; contradiction), h.has]
  · rw [valK_drop] at hj
    by_cases e : j = k
    · rw [if_pos e] at hj; cases hj
    · rw [if_neg e] at hj
      rw [atKey_del_other (by intro e2; injection e2; contradiction)]
      exact h.at_ j u z hj
theorem Ch.Ok.new (e d : Int) : (Ch.new e d).Ok :=
  ⟨.inr (secI_bd _ _), List.Pairwise.nil, fun _ h => (by cases h), fun _ h => (by cases h), Nat.zero_le _⟩
theorem Ch.Ok.step {c : Ch} (h : c.Ok) : c.step.Ok :=
  ⟨.inr (secI_bd _ _), h.rise, fun p hp => by have := h.low p hp; show 0 ≤ p.1 ∧ p.1 < ((c.num + 1 : Nat) : Int); omega, h.val, h.few⟩
theorem Ch.fill_num (c : Ch) (j : Nat) : (c.fill j).num = c.num + j := by
  induction j with
  | zero => rfl
  | succ j ih => show (c.fill j).num + 1 = _; omega
theorem Ch.fill_st {c : Ch} (h : c.st ≠ 0) (j : Nat) : (c.fill j).st ≠ 0 := by
  cases j with
  | zero => exact h
  | succ j => have := secI_bd nextL [(c.fill j).st]; show secI nextL [(c.fill j).st] ≠ 0; omega
theorem Ch.fill_len (c : Ch) (j : Nat) : (c.fill j).ks.length = c.ks.length + j := by
  induction j with
  | zero => rfl
  | succ j ih => show ((c.fill j).ks ++ [_]).length = _; rw [List.length_append, ih]; rfl
theorem Ch.Ok.fill {c : Ch} (h : c.Ok) {j : Nat} (hj : c.ks.length + j ≤ 50) : (c.fill j).Ok := by
  induction j with
  | zero => exact h
  | succ j ih =>
    have ih := ih (by omega)
    have hl := c.fill_len j
    have hn := c.fill_num j
    refine ⟨.inr (secI_bd _ _), ?_, fun p hp => ?_, fun p hp => ?_, ?_⟩
    · show ((c.fill j).ks ++ [_]).Pairwise _
      refine List.pairwise_append.2 ⟨ih.rise, List.pairwise_singleton _ _, fun a ha b hb => ?_⟩
      rw [List.mem_singleton] at hb
      subst hb
      exact (ih.low a ha).2
    · show 0 ≤ p.1 ∧ p.1 < (((c.fill j).num + 1 : Nat) : Int)
      rcases List.mem_append.1 hp with hp | hp
      · have := ih.low p hp; omega
      · rw [List.mem_singleton] at hp
        subst hp
        exact ⟨by omega, by show ((c.fill j).num : Int) < _; omega⟩
    · rcases List.mem_append.1 hp with hp | hp
      · exact ih.val p hp
      · rw [List.mem_singleton] at hp
        subst hp
        exact secI_bd _ _
    · show ((c.fill j).ks ++ [_]).length ≤ 50
      rw [List.length_append, hl]
      show c.ks.length + j + 1 ≤ 50
      omega
theorem Ch.Ok.new_key {c : Ch} (h : c.Ok) : valK c.ks c.num = none := valK_none fun p hp e => by have := h.low p hp; omega
theorem Ch.Ok.drop {c : Ch} (h : c.Ok) (k : Int) : (Ch.mk c.num c.st (dropK c.ks k)).Ok :=
  ⟨h.st, h.rise.filter _, fun p hp => h.low p (List.mem_filter.1 hp).1, fun p hp => h.val p (List.mem_filter.1 hp).1, Nat.le_trans (List.length_filter_le _ _) h.few⟩
theorem Ch.Ok.shut (c : Ch) : c.shut.Ok := ⟨.inl rfl, List.Pairwise.nil, fun _ h => (by cases h), fun _ h => (by cases h), Nat.zero_le _⟩
theorem Ch.Ok.next {c : Ch} (h : c.Ok) : c.next.1.Ok := by
  unfold Ch.next
  split
  · exact h
  · exact h.step
theorem Ch.ask_zero {c : Ch} (n : Int) (h : c.st = 0) : c.ask n = (c, 0, 25) := by unfold Ch.ask; rw [if_pos h]
theorem Ch.ask_some {c : Ch} {n v : Int} (h : c.st ≠ 0) (hv : valK c.ks n = some v) : c.ask n = (⟨c.num, c.st, dropK c.ks n⟩, v, 0) := by
  unfold Ch.ask; rw [if_neg h, hv]
theorem Ch.ask_used {c : Ch} {n : Int} (h : c.st ≠ 0) (hv : valK c.ks n = none) (hn : n < c.num) : c.ask n = (c, 0, 24) := by
  unfold Ch.ask; rw [if_neg h, hv]; simp [hn]
theorem Ch.ask_full {c : Ch} {n : Int} (h : c.st ≠ 0) (hv : valK c.ks n = none) (hn : ¬ n < c.num) (hf : 50 - (c.ks.length : Int) < n - c.num) : c.ask n = (c, 0, 3) := by
  unfold Ch.ask; rw [if_neg h, hv]; simp [hn, hf]
theorem Ch.ask_ok {c : Ch} {n : Int} (h : c.st ≠ 0) (hv : valK c.ks n = none) (hn : ¬ n < c.num) (hf : ¬ 50 - (c.ks.length : Int) < n - c.num) : c.ask n = ((c.fill (n - c.num).toNat).step, (c.fill (n - c.num).toNat).key, 0) := by
  unfold Ch.ask; rw [if_neg h, hv]; simp [hn, hf]
theorem Ch.Ok.ask {c : Ch} (h : c.Ok) (n : Int) : (c.ask n).1.Ok ∧ (c.ask n).1.num ≤ c.num + 51 := by
  by_cases hs : c.st = 0
  · rw [Ch.ask_zero n hs]; exact ⟨h, by show c.num ≤ _; omega⟩
  · cases hv : valK c.ks n with
    | some v => rw [Ch.ask_some hs hv]; exact ⟨h.drop n, by show c.num ≤ _; omega⟩
    | none =>
      by_cases hn : n < c.num
      · rw [Ch.ask_used hs hv hn]; exact ⟨h, by show c.num ≤ _; omega⟩
      · by_cases hf : 50 - (c.ks.length : Int) < n - c.num
        · rw [Ch.ask_full hs hv hn hf]; exact ⟨h, by show c.num ≤ _; omega⟩
        · rw [Ch.ask_ok hs hv hn hf]
          refine ⟨(h.fill (by omega)).step, ?_⟩
          show (c.fill _).num + 1 ≤ _
          rw [Ch.fill_num]
          omega
end Go.Proofs.Ytcnhgkgabddjmaa
