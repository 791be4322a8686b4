/-
  The least polynomial with some values, of any two lists.
-/
import Derived.Test.YtelnhpcehmdffaaPol7
import Derived.Deep.RegionHeld3
namespace Go.Proofs.Ytelnhpcehmdffaa
open Go.RowKit
attribute [local go_sem] T_V

/-- What From answers, of any two lists. -/
def FromIs (xs ys fs : List F) : Prop := (xs.length = ys.length → FromOk xs ys fs) ∧ (xs.length ≠ ys.length → fs = [])
theorem FromIs.same {xs ys fs gs : List F} (h : FromIs xs ys fs) (k : FromIs xs ys gs) : fs = gs := by
  by_cases e : xs.length = ys.length
  · exact (h.1 e).same (k.1 e)
  · rw [h.2 e, k.2 e]
/-- .. as what a call returns. -/
def RetsF (e : Ending) (w' : World) (xs ys : List Int) : Prop := ∃ p n c fs, e = .returned (.slice p n c) ∧ U w' p n (fs.map V) ∧ n ≤ c ∧ n ≤ xs.length ∧ Hid (FromIs (xs.map T) (ys.map T) fs)
theorem FromOk.len_le {xs ys fs : List F} (h : FromOk xs ys fs) : fs.length ≤ xs.length := by
  by_cases hd : xs.Nodup
  · exact h.len hd
  · rw [h.no hd]; exact Nat.zero_le _
theorem rets_none {w : World} {xs ys : List Int} (hne : xs.length ≠ ys.length) : RetsF (.returned (.slice none 0 0)) w xs ys :=
  ⟨none, 0, 0, [], rfl, U.nil, Nat.le_refl _, Nat.zero_le _, Lib.hid ⟨fun e => absurd (by simpa using e) hne, fun _ => rfl⟩⟩
theorem rets_ok {w : World} {xs ys : List Int} {v : Value} {fs : List F} (hv : Fs w v fs) (hok : FromOk (xs.map T) (ys.map T) fs) (he : xs.length = ys.length) : RetsF (.returned v) w xs ys := by
  obtain ⟨p, n, c, rfl, hc, hU⟩ := hv
  refine ⟨p, n, c, fs, rfl, hU, hc, ?_, Lib.hid ⟨fun _ => hok, fun h => absurd (by simpa using he) h⟩⟩
  have h1 := hok.len_le
  have h2 := hU.len
  rw [List.length_map] at h1 h2
  omega
theorem slice_to (p : Option Addr) (n c k : Nat) (hk : k ≤ c) (W : World) : (Instr.slice 22 (.slice p n c) none (some (.int .i64 (k : Int))) none).run Try.prog W = .ok (.slice p k c) W := by
  have hs : (sizeOf (Try.prog.elem 22)).run Try.prog W = .ok 1 W := by kernel_rfl
  rw [run_slice_h W 22 p n c (by kernel_rfl) .i64 (k : Int) (by omega) (by omega), hs]
  have e : (p.map fun x => x.add 0) = p := by cases p <;> rfl
  show Result.ok (Value.slice (if c = 0 then p else p.map fun x => x.add (0 * 1)) ((k : Int).toNat - 0) (c - 0)) W = _
  rw [Nat.zero_mul, e]
  simp
theorem slice_one (a : Addr) (n c : Nat) (hn : 2 ≤ n) (hc : n ≤ c) (W : World) : (Instr.slice 22 (.slice (some a) n c) (some (.int .i64 1)) none none).run Try.prog W = .ok (.slice (some (a.add 1)) (n - 1) (c - 1)) W := by
  have hs : (sizeOf (Try.prog.elem 22)).run Try.prog W = .ok 1 W := by kernel_rfl
  rw [run_slice_l W 22 (some a) n c (by kernel_rfl) .i64 1 (by omega) (by omega), hs]
  show Result.ok (Value.slice (if c = 1 then some a else some (a.add (1 * 1))) (n - 1) (c - 1)) W = _
  rw [if_neg (by omega)]
theorem keep2 {wl W : World} {b o o' : Nat} {v v' : Value} (h : Below wl.heap.size wl W) (h1 : wl.cell? ⟨b, o, none⟩ = some v) (h2 : wl.cell? ⟨b, o', none⟩ = some v') : (W.cell? ⟨b, o, none⟩ = some v ∧ W.cell? ⟨b, o', none⟩ = some v') ∧ Below wl.heap.size wl W :=
  ⟨⟨(h.cell (cell_lt h1)).trans h1, (h.cell (cell_lt h2)).trans h2⟩, h⟩
section
variable {p q : Option Addr} {n m : Nat} {A B : Pol} (c d : Nat) {w0 w : World} (hb : Below w0.heap.size w0 w) (hA : Rp w0 p n A) (hB : Rp w0 q m B) (hn : n ≤ 100000) (hm : m ≤ 100000)
include hb hA hn hB hm
theorem DivMod_b : Calls Try.prog 31 #[.slice p n c, .slice q m d] w fun e w' => Rets2 e w' A B n m ∧ Below w.heap.size w w' ∧ Below w0.heap.size w0 w' :=
  (DivMod_p c d (hA.below hb) (hB.below hb) hn hm).mono fun _ _ ⟨h1, h2⟩ => ⟨h1, h2, hb.trans (h2.mono hb.size)⟩
theorem Gcd_b : Calls Try.prog 30 #[.slice p n c, .slice q m d] w fun e w' => RetsG e w' A B (n + m) ∧ Below w.heap.size w w' ∧ Below w0.heap.size w0 w' :=
  (Gcd_p c d (hA.below hb) (hB.below hb) hn hm).mono fun _ _ ⟨h1, h2⟩ => ⟨h1, h2, hb.trans (h2.mono hb.size)⟩
end
theorem below_drew {w w' : World} (h : Below w.drew.heap.size w.drew w') : Below w.heap.size w w' := ((Below.refl _ w).drew).trans h
theorem Own.nilc {w : World} {base : Nat} {p : Option Addr} {n c m : Nat} {xs : List Int} (h : Own w base (.slice p n c) m xs) : p = none → c = 0 := by
  obtain ⟨p', c', e, _, _, h2⟩ := h.u'
  injection e with e1 _ e3
  subst e1
  subst e3
  exact h2
theorem factor_root {A Q R : Pol} {r : F} (h : Pol.DivIs A (Pol.prodL [r]) Q R) : R = 0 ↔ A.at' r = 0 := by
  have h1 := (h.resolve_left fun k => Pol.prodL_ne _ k.1).2
  have e : Pol.prodL [r] = Pol.lin r := by show Pol.lin r * 1 = _; grind
  rw [e] at h1
  rw [Pol.root_dvd]
  refine ⟨fun e0 => ⟨Q, ?_⟩, fun hd => h1.dvd hd⟩
  have := h1.eq
  rw [e0] at this
  rw [this]; grind
theorem both_roots {A B : Pol} {ra rb rt S : List F} (hA : A ≠ 0) (hB : B ≠ 0) (ha : RootsOk A ra) (hb : RootsOk B rb) (ht : RootsOk (A * B) rt) (hs : SortedOf (ra ++ rb) S) : rt = S :=
  ht.1.same hs.1 fun x => by
    rw [ht.2.2 (Pol.mul_ne_zero hA hB), hs.2, List.mem_append, ha.2.2 hA, hb.2.2 hB, Pol.at_mul, mul_eq_zero']
end Go.Proofs.Ytelnhpcehmdffaa
