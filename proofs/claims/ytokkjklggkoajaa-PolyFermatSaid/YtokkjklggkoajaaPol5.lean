/-
  The roots of a polynomial: what is split off, and that something is, for some shift. Plain Lean.
-/
import Derived.Test.YtokkjklggkoajaaPol4
namespace Go.Proofs.Ytokkjklggkoajaa
namespace Pol

theorem dvd_lin_at {p : Pol} {r : F} (h : Dvd (lin r) p) : p.at' r = 0 := (root_dvd p r).2 h
theorem at_of_dvd {g p : Pol} (h : Dvd g p) {r : F} (hr : g.at' r = 0) : p.at' r = 0 := by
  obtain ⟨w, rfl⟩ := h
  rw [at_mul, hr, mul_zero']
/-- A root of both is a root of what divides both. -/
theorem gcd_root {a b g : Pol} (h : GcdOk a b g) (r : F) : g.at' r = 0 ↔ a.at' r = 0 ∧ b.at' r = 0 :=
  ⟨fun hr => ⟨at_of_dvd h.left hr, at_of_dvd h.right hr⟩, fun ⟨h1, h2⟩ => dvd_lin_at (h.best _ ((root_dvd a r).1 h1) ((root_dvd b r).1 h2))⟩
theorem cong_at {M A B : Pol} (h : Cong M A B) {r : F} (hr : M.at' r = 0) : A.at' r = B.at' r := by
  obtain ⟨w, hw⟩ := h
  have := congrArg (fun p => at' p r) hw
  simp only [at_sub, at_mul, hr, mul_zero'] at this
  grind
/-- What is split off, and what is left. -/
theorem split_off {L : List F} (hd : L.Nodup) {B G Q' R : Pol} (f : F → Bool) (hf : ∀ r ∈ L, f r = true ↔ B.at' r = 0) (hg : GcdOk (prodL L) B G) (hdv : DivOk (prodL L) G Q' R) :
    G = prodL (L.filter f) ∧ Q' = prodL (L.filter fun r => !f r) := by
  have hR : R = 0 := hdv.dvd hg.left
  have hA := prodL_ne L
  have e : prodL L = Q' * G := by have := hdv.eq; rw [hR] at this; rw [this]; grind
  have hG : G ≠ 0 := fun h => hA (by rw [e, h]; grind)
  have hQ : Q' ≠ 0 := fun h => hA (by rw [e, h]; grind)
  have hl := len_mul hQ hG
  rw [← e, len_prodL] at hl
  have ht := top_mul hQ hG
  rw [← e, top_prodL, hg.monic hG, mul_one'] at ht
  have hgp := len_pos hG
  have hqp := len_pos hQ
  have n1 : (L.filter f).Nodup := hd.filter _
  have n2 : (L.filter fun r => !f r).Nodup := hd.filter _
  have r1 : ∀ x ∈ L.filter f, G.at' x = 0 := fun x hx => by
    obtain ⟨h1, h2⟩ := List.mem_filter.1 hx
    exact (gcd_root hg x).2 ⟨(at_prodL x L).2 h1, (hf x h1).1 h2⟩
  have r2 : ∀ x ∈ L.filter (fun r => !f r), Q'.at' x = 0 := fun x hx => by
    obtain ⟨h1, h2⟩ := List.mem_filter.1 hx
    have h3 := (at_prodL x L).2 h1
    rw [e, at_mul, mul_eq_zero'] at h3
    rcases h3 with h3 | h3
    · exact h3
    · have := (hf x h1).2 ((gcd_root hg x).1 h3).2
      rw [this] at h2; cases h2
  have c1 := roots_lt hG n1 r1
  have c2 := roots_lt hQ n2 r2
  have c3 := filter_split L f
  exact ⟨full_eq _ G hG (hg.monic hG) n1 r1 (by omega), full_eq _ Q' hQ ht.symm n2 r2 (by omega)⟩

/-! ### Some shift parts two numbers -/
/-- Is a number a square, and not 0? (Euler's.) -/
def sq (x : F) : Bool := x ^ 1152921504606846975 == 1
theorem T_succ (n : Nat) : T ((n + 1 : Nat) : Int) = T (n : Int) + 1 := by rw [show ((n + 1 : Nat) : Int) = (n : Int) + 1 by omega, T_add, T_one]
theorem step_all (S : F → Bool) (d : F) (h : ∀ x, S (x + d) = S x) (x : F) : ∀ n : Nat, S (x + T (n : Int) * d) = S x := by
  intro n
  induction n with
  | zero => rw [show ((0 : Nat) : Int) = 0 from rfl, T_zero, zero_mul', add_zero']
  | succ n ih =>
    rw [T_succ, ← ih, ← h (x + T (n : Int) * d)]
    congr 1
    grind
theorem shift_const (S : F → Bool) (d : F) (hd : d ≠ 0) (h : ∀ x, S (x + d) = S x) (x y : F) : S x = S y := by
  have e : x = y + T ((((x - y) * inv d).val : Nat) : Int) * d := by
    have h1 : T ((((x - y) * inv d).val : Nat) : Int) = (x - y) * inv d := T_V _
    rw [h1]
    have := mul_inv d hd
    grind
  rw [e]
  exact step_all S d h y _
theorem sq_one : sq 1 = true := by
  unfold sq
  rw [one_pow', beq_iff_eq]
theorem sq_zero : sq 0 = false := by
  unfold sq
  rw [zero_pow' _ (by decide), beq_eq_false_iff_ne]
  exact fun e => one_ne e.symm
/-- Two unlike numbers are parted by some shift. -/
theorem parts {a b : F} (hab : a ≠ b) : ∃ s : F, sq (a + s) ≠ sq (b + s) := by
  apply Classical.byContradiction
  intro hn
  have h : ∀ s, sq (a + s) = sq (b + s) := fun s => Classical.byContradiction fun e => hn ⟨s, e⟩
  have hd : a - b ≠ 0 := sub_ne hab
  have := shift_const sq (a - b) hd (fun x => by
    have := h (x - b)
    rw [show a + (x - b) = x + (a - b) by grind, show b + (x - b) = x by grind] at this
    exact this) 1 0
  rw [sq_one, sq_zero] at this
  cases this
/-- What has all roots of a polynomial, each once. -/
theorem roots_gcd {A H G : Pol} (hc : Cong A (X ^ Q) H) (hg : GcdOk A (H - X) G) (hA : A ≠ 0) : ∃ L : List F, L.Nodup ∧ (∀ x, x ∈ L ↔ A.at' x = 0) ∧ G = prodL L := by
  have hG : G ≠ 0 := fun e => hA (by
    obtain ⟨w, hw⟩ := hg.left
    rw [hw, e]; grind)
  have hdv : Dvd G (X ^ Q - X) := by
    have h1 : X ^ Q - X = (X ^ Q - H) + (H - X) := by grind
    rw [h1]
    exact (hg.left.trans hc).add hg.right
  obtain ⟨L, h1, h2, h3⟩ := full_of_dvd hdv
  refine ⟨L, h1, fun x => ?_, full_eq L G hG (hg.monic hG) h1 (fun x hx => (h2 x).1 hx) h3⟩
  rw [h2, gcd_root hg]
  refine ⟨fun h => h.1, fun h => ⟨h, ?_⟩⟩
  have := cong_at hc h
  rw [at_pow, at_X, fermat'] at this
  rw [at_sub, at_X, ← this]; grind
/-- The values at the roots, of a power modulo the polynomial, less 1. -/
theorem power_at {A P H : Pol} {n : Nat} (hc : Cong A (P ^ n) H) {r : F} (hr : A.at' r = 0) : (H - 1).at' r = P.at' r ^ n - 1 := by
  rw [at_sub, at_one, ← cong_at hc hr, at_pow]
end Pol
end Go.Proofs.Ytokkjklggkoajaa
