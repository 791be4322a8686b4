/-
  Shares (9): what shares tell, one function for the program and for the reference.
-/
import Derived.Test.YtpngkdhfjginlaaShH
namespace Go.Proofs.Ytpngkdhfjginlaa
open Go.RowKit
attribute [local go_sem] T_V

open Classical in
/-- The polynomial through shares. -/
noncomputable def tellP (l : List (Int × Int)) : List F := if h : ∃ fs, FromOk (plc l) ((vals l).map T) fs then h.choose else []
theorem tellP_eq {l : List (Int × Int)} {fs : List F} (h : FromOk (plc l) ((vals l).map T) fs) : tellP l = fs := by
  unfold tellP
  rw [dif_pos ⟨fs, h⟩]
  exact (Classical.choose_spec (⟨fs, h⟩ : ∃ fs, FromOk (plc l) ((vals l).map T) fs)).same h
/-- Do the shares tell? -/
def tellB (l : List (Int × Int)) : Bool := !l.isEmpty && apartB l
noncomputable def tellV (l : List (Int × Int)) (x : F) : Int := if tellB l = true then V (ev (tellP l) x) else 0
def tellE (l : List (Int × Int)) : Int := if tellB l = true then 0 else 29
theorem tellB_ok {l : List (Int × Int)} {n : Nat} (hl : l.length = n) (h : tellB l = true) : 0 < n ∧ apartB l = true := by
  unfold tellB at h
  cases l with
  | nil => simp at h
  | cons a l => simp at h; exact ⟨by simp at hl; omega, h⟩
theorem tellB_bad {l : List (Int × Int)} {n : Nat} (hl : l.length = n) (h : tellB l = false) : n = 0 ∨ apartB l = false := by
  unfold tellB at h
  cases l with
  | nil => left; simpa using hl.symm
  | cons a l => right; simpa using h

theorem At_tell (p : Option Addr) (n : Nat) (l : List (Int × Int)) (c : Nat) (x : Int) (w : World) (hL : Sh w p n l) (hn : n ≤ 1000000) (hx0 : 0 ≤ x) (hx1 : x < 18446744073709551616) :
    Calls Try.prog 16 #[.slice p n c, .int .u64 x] w fun e w' => e = .returned (.tuple #[.int .u64 (tellV l (T x)), .int .i64 (tellE l)]) ∧ Below w.heap.size w w' := by
  unfold tellV tellE
  cases h : tellB l with
  | true =>
    obtain ⟨h0, h1⟩ := tellB_ok hL.len h
    refine (At_ok p n l c x w hL hn h0 h1 hx0 hx1).mono ?_
    rintro e w' ⟨fs, rfl, hok, hb⟩
    rw [if_pos rfl, if_pos rfl, tellP_eq hok]
    exact ⟨rfl, hb⟩
  | false =>
    refine (At_bad p n l c x w hL hn (tellB_bad hL.len h)).mono ?_
    rintro e w' ⟨rfl, hb⟩
    exact ⟨rfl, hb⟩
theorem rAt_tell (p : Option Addr) (n : Nat) (l : List (Int × Int)) (c : Nat) (x : Int) (w : World) (hL : Sh w p n l) (hn : n ≤ 1000000) (hx0 : 0 ≤ x) (hx1 : x < 18446744073709551616) :
    Calls Try.prog 17 #[.slice p n c, .int .u64 x] w fun e w' => e = .returned (.tuple #[.int .u64 (tellV l (T x)), .int .i64 (tellE l)]) ∧ Below w.heap.size w w' := by
  unfold tellV tellE
  cases h : tellB l with
  | true =>
    obtain ⟨h0, h1⟩ := tellB_ok hL.len h
    refine (rAt_ok p n l c x w hL hn h0 h1 hx0 hx1).mono ?_
    rintro e w' ⟨fs, rfl, hok, hb⟩
    rw [if_pos rfl, if_pos rfl, tellP_eq hok]
    exact ⟨rfl, hb⟩
  | false =>
    refine (rAt_bad p n l c x w hL hn (tellB_bad hL.len h)).mono ?_
    rintro e w' ⟨rfl, hb⟩
    exact ⟨rfl, hb⟩
theorem Join_tell (p : Option Addr) (n : Nat) (l : List (Int × Int)) (c : Nat) (w : World) (hL : Sh w p n l) (hn : n ≤ 1000000) :
    Calls Try.prog 18 #[.slice p n c] w fun e w' => e = .returned (.tuple #[.int .u64 (tellV l 0), .int .i64 (tellE l)]) ∧ Below w.heap.size w w' := by
  unfold tellV tellE
  cases h : tellB l with
  | true =>
    obtain ⟨h0, h1⟩ := tellB_ok hL.len h
    refine (Join_ok p n l c w hL hn h0 h1).mono ?_
    rintro e w' ⟨fs, rfl, hok, hb⟩
    rw [if_pos rfl, if_pos rfl, tellP_eq hok]
    exact ⟨rfl, hb⟩
  | false =>
    refine (Join_bad p n l c w hL hn (tellB_bad hL.len h)).mono ?_
    rintro e w' ⟨rfl, hb⟩
    exact ⟨rfl, hb⟩
end Go.Proofs.Ytpngkdhfjginlaa
