/-
  Slices of signed numbers: what they read as; as an argument, opened; is a number among them.
-/
import Derived.Test.YtpngkdhfjginlaaOpen
import Derived.Test.YtpngkdhfjginlaaShC
namespace Go.Proofs.Ytpngkdhfjginlaa
open Go.ChangeShapes Go.WideShapes Go.ChangeAt Go.RowKit

/-- A slice of n signed numbers. -/
structure UI (w : World) (p : Option Addr) (n : Nat) (xs : List Int) : Prop where
  len : xs.length = n
  rd : Rd w p (xs.map (Value.int .i64))
  bd : ∀ x ∈ xs, -9223372036854775808 ≤ x ∧ x ≤ 9223372036854775807
theorem UI.below {w w' : World} {p : Option Addr} {n : Nat} {xs : List Int} (h : UI w p n xs) (hb : Below w.heap.size w w') : UI w' p n xs := ⟨h.len, h.rd.below hb, h.bd⟩
theorem UI.look {w : World} {p : Option Addr} {n : Nat} {xs : List Int} (h : UI w p n xs) {i : Nat} (hi : i < n) :
    ∃ b off, p = some ⟨b, off, none⟩ ∧ b < w.heap.size ∧ w.cell? ⟨b, off + i, none⟩ = some (.int .i64 (nth xs i)) ∧ -9223372036854775808 ≤ nth xs i ∧ nth xs i ≤ 9223372036854775807 := by
  have hi' : i < xs.length := by rw [h.len]; exact hi
  obtain ⟨b, off, hp, hb, hc⟩ := h.rd.here (i := i) (by simpa using hi')
  have hx := h.bd _ (nth_mem hi')
  refine ⟨b, off, hp, hb, ?_, hx⟩
  have := hc i (by simpa using hi')
  rwa [List.getElem_map, ← nth_eq hi'] at this
theorem UI.cell {w : World} {b off n : Nat} {xs : List Int} (h : UI w (some ⟨b, off, none⟩) n xs) {i : Nat} (hi : i < n) : w.cell? ⟨b, off + i, none⟩ = some (.int .i64 (nth xs i)) := by
  obtain ⟨b', off', he, _, hc, _⟩ := h.look hi
  injection he with he
  injection he with h1 h2
  subst h1; subst h2
  exact hc

theorem open_I {H : Type} {enc : TypeId × Value → H} {W : World} {base : Nat} {v : Value} {d : DataW H} {ps : List MemPlace} (hok : Value.okWide Try.prog W .any base 31 v) (h : DataW.Trod enc Try.prog W 0 (fun _ => true) true 31 v d ps) :
    ∃ p n c xs, v = .slice p n c ∧ UI W p n xs ∧ n ≤ c ∧ n ≤ 9223372036854775807 ∧ (p = none → c = 0) := by
  obtain ⟨p, n, c, zs, rfl, hl, hr, hw, hnc, hcm, hp⟩ := open_nums Try.underlying31 Try.underlying3 (by kernel_rfl) hok h
  refine ⟨p, n, c, zs, rfl, ⟨hl, hr, fun z hz => wf_i64 (hw z hz)⟩, hnc, ?_, hp⟩
  unfold maxLen at hcm
  omega

set_option maxRecDepth 100000 in
theorem Has_any (p : Option Addr) (n : Nat) (xs : List Int) (c : Nat) (x : Int) (w : World) (hU : UI w p n xs) (hn : n ≤ 9223372036854775806) (r : Bool) (hr : Hid (r = xs.contains x)) :
    Calls Try.prog 30 #[.slice p n c, .int .i64 x] w fun e w' => e = .returned (.bool r) ∧ w = w' := by
  have hX := Lib.hid hU.len
  go_enter Try.func30, Try.ntmps30
  go_wp2
  go_loopw [5] (fun i wr => ∃ k : Nat, k ≤ n ∧ i = .int .i64 k ∧ Hid (∀ j, j < k → nth xs j ≠ x) ∧ w = wr)
    (fun i _ => n - (intOf i).toNat)
  case atStart => exact ⟨0, Nat.zero_le _, rfl, Lib.hid (fun j hj => absurd hj (by omega)), rfl⟩
  case round =>
    obtain ⟨k, hk, rfl, hno, rfl⟩ := hrel
    by_cases hlt : k < n
    · obtain ⟨b, off, rfl, _, hc, _⟩ := hU.look hlt
      by_cases he : nth xs k = x
      · have he' : (nth xs k == x) = true := by rw [beq_iff_eq]; exact he
        have hfin : Hid (xs.contains x = true) := Lib.hid (by rw [List.contains_iff_mem, ← he]; exact nth_mem (by rw [hX.out]; exact hlt))
        clear he
        go_wp2
        go_ret
        exact ⟨ret_bool (by rw [hr.out, hfin.out]), rfl⟩
      · have he' : (nth xs k == x) = false := beq_eq_false_iff_ne.2 he
        have hno' : Hid (∀ j, j < k + 1 → nth xs j ≠ x) := Lib.hid (fun j hj => by
          by_cases hjk : j = k
          · subst hjk; exact he
          · exact hno.out j (by omega))
        clear he hno
        go_wp2
        go_roundw
        case rel => exact ⟨k + 1, by omega, by go_num, hno', trivial⟩
        case measure => simp [intOf]; omega
    · have hfin : Hid (xs.contains x = false) := Lib.hid (by
        rw [List.contains_eq_mem, decide_eq_false_iff_not]
        intro hm
        obtain ⟨j, hj, hjx⟩ := List.getElem_of_mem hm
        exact hno.out j (by rw [hX.out] at hj; omega) (by rw [nth_eq hj]; exact hjx))
      clear hno
      go_wp2
      go_ret
      exact ⟨ret_bool (by rw [hr.out, hfin.out]), rfl⟩
end Go.Proofs.Ytpngkdhfjginlaa
