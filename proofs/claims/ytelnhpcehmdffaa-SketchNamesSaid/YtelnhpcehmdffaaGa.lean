/-
  Plain arithmetic modulo the prime 2^61 - 1: that it is a field with a generator, Fermat's little theorem, and what the numbers of the program mean in it. No program in sight.
  Polynomials over the field as lists of coefficients, the least power first: plain Lean, no program in sight.
  Polynomials: values of sums and products; how many roots; what has given values. Plain Lean.
  Lagrange's way to what has given values: plain Lean.
  Polynomials as a ring: lists without noughts at the end. Plain Lean.
  Polynomials: lengths, division, what divides, the greatest common divisor, roots. Plain Lean.
  Polynomials as arrays: the steps of long division. Plain Lean.
  Polynomials modulo one of them; powers. Plain Lean.
  The roots of a polynomial: what is split off, and that something is, for some shift. Plain Lean.
  Plain facts on polynomials (6): division by taking away what is first; numbers rising, each once.
-/

namespace Go.Proofs.Ytelnhpcehmdffaa

/-- The prime 2^61 - 1. -/
def Q : Nat := 2305843009213693951
theorem Q_eq : Q = 2305843009213693951 := rfl
instance : NeZero Q := ⟨by unfold Q; decide⟩
/-- The field. -/
abbrev F := Fin Q

/-! ### A power by squaring, to be reckoned by the kernel -/
def pw (g : Nat) : Nat → Nat → Nat → Nat
  | 0, _, acc => acc
  | fuel + 1, e, acc => pw (g * g % Q) fuel (e / 2) (if e % 2 = 1 then acc * g % Q else acc)

theorem pw_eq (fuel : Nat) : ∀ (g e acc : Nat), e < 2 ^ fuel → acc < Q → pw g fuel e acc = acc * g ^ e % Q := by
  induction fuel with
  | zero =>
    intro g e acc he ha
    have : e = 0 := by simpa using he
    subst this
    simp [pw, Nat.mod_eq_of_lt ha]
  | succ f ih =>
    intro g e acc he ha
    have h2 : e / 2 < 2 ^ f := by rw [Nat.pow_succ] at he; omega
    have hQ : 0 < Q := by unfold Q; decide
    have hsq : (g * g % Q) ^ (e / 2) % Q = (g ^ 2) ^ (e / 2) % Q := by rw [← Nat.pow_mod, Nat.pow_two]
    by_cases h1 : e % 2 = 1
    · rw [pw, if_pos h1, ih _ _ _ h2 (Nat.mod_lt _ hQ), Nat.mul_mod, hsq, ← Nat.mul_mod, ← Nat.pow_mul]
      have he2 : e = 2 * (e / 2) + 1 := by omega
      rw [Nat.mul_mod, Nat.mod_mod, ← Nat.mul_mod, Nat.mul_assoc, ← Nat.pow_succ', Nat.succ_eq_add_one, ← he2]
    · rw [pw, if_neg h1, ih _ _ _ h2 ha, Nat.mul_mod, hsq, ← Nat.mul_mod, ← Nat.pow_mul]
      have he2 : e = 2 * (e / 2) := by omega
      rw [← he2]

theorem F_pow_val (g : F) (e : Nat) : (g ^ e).val = g.val ^ e % Q := by
  induction e with
  | zero =>
    have h : (g ^ 0 : F) = 1 := by grind
    rw [h, Nat.pow_zero]
    show (1 % Q) = 1 % Q
    rfl
  | succ e ih =>
    have h : g ^ (e + 1) = g ^ e * g := by grind
    rw [h, Fin.val_mul, ih, Nat.pow_succ, Nat.mod_mul_mod]

def gen : F := 37
theorem gen_pow (e : Nat) (he : e < 2 ^ 64) : (gen ^ e).val = pw 37 64 e 1 := by
  rw [F_pow_val, pw_eq 64 37 e 1 he (by unfold Q; decide), Nat.one_mul]; rfl
theorem gen_pow_ne (e : Nat) (he : e < 2 ^ 64) (h : pw 37 64 e 1 ≠ 1) : gen ^ e ≠ 1 := by
  intro e1
  apply h
  rw [← gen_pow e he, e1]; rfl
theorem gen_pow_eq (e : Nat) (he : e < 2 ^ 64) (h : pw 37 64 e 1 = 1) : gen ^ e = 1 := by
  apply Fin.ext
  rw [gen_pow e he, h]; rfl

def M : Nat := 2305843009213693950
theorem gen_M : gen ^ M = 1 := gen_pow_eq M (by decide) (by decide +kernel)
def facs : List Nat := [2, 3, 5, 7, 11, 13, 31, 41, 61, 151, 331, 1321]
theorem gen_q (q : Nat) (hq : q ∈ facs) : gen ^ (M / q) ≠ 1 := by
  have h : ∀ q ∈ facs, pw 37 64 (M / q) 1 ≠ 1 := by decide +kernel
  have hlt : ∀ q ∈ facs, M / q < 2 ^ 64 := by decide +kernel
  exact gen_pow_ne _ (hlt q hq) (h q hq)
theorem fac_prime : ∀ q ∈ facs, ∀ d < q, 2 ≤ d → ¬ d ∣ q := by
  have h : ∀ q ∈ facs, ∀ d < q, 2 ≤ d → q % d ≠ 0 := by decide +kernel
  intro q hq d hd h2 hdv
  exact h q hq d hd h2 (Nat.mod_eq_zero_of_dvd hdv)

/-- A least divisor from 2 on is a prime: it divides a product just if it divides a factor. -/
theorem least_div (e : Nat) (he : 2 ≤ e) : ∃ p, 2 ≤ p ∧ p ∣ e ∧ ∀ d, 2 ≤ d → d ∣ e → p ≤ d := by
  have key : ∀ n, ∀ d, d ≤ n → 2 ≤ d → d ∣ e → ∃ p, 2 ≤ p ∧ p ∣ e ∧ ∀ d, 2 ≤ d → d ∣ e → p ≤ d := by
    intro n
    induction n with
    | zero => intro d hd h2 _; omega
    | succ n ih =>
      intro d hd h2 hdv
      by_cases h : ∃ d', 2 ≤ d' ∧ d' ∣ e ∧ d' < d
      · obtain ⟨d', h1, h2', h3⟩ := h
        exact ih d' (by omega) h1 h2'
      · exact ⟨d, h2, hdv, fun d' h1 h2' => by
          by_cases hlt : d' < d
          · exact absurd ⟨d', h1, h2', hlt⟩ h
          · omega⟩
  exact key e e (Nat.le_refl _) he (Nat.dvd_refl _)

theorem least_euclid (e p : Nat) (h2 : 2 ≤ p) (hp : p ∣ e) (hl : ∀ d, 2 ≤ d → d ∣ e → p ≤ d) (a b : Nat) (h : p ∣ a * b) : p ∣ a ∨ p ∣ b := by
  have hg : Nat.gcd p a ∣ p := Nat.gcd_dvd_left p a
  by_cases h1 : Nat.gcd p a = 1
  · exact .inr (Nat.Coprime.dvd_of_dvd_mul_left h1 h)
  · have h0 : Nat.gcd p a ≠ 0 := by
      intro h0
      have := Nat.eq_zero_of_gcd_eq_zero_left h0
      omega
    have hle : p ≤ Nat.gcd p a := hl _ (by omega) (Nat.dvd_trans hg hp)
    have hle2 : Nat.gcd p a ≤ p := Nat.le_of_dvd (by omega) hg
    have heq : Nat.gcd p a = p := by omega
    left
    rw [← heq]
    exact Nat.gcd_dvd_right p a

theorem M_facs : M = 2 * 3 * 3 * 5 * 5 * 7 * 11 * 13 * 31 * 41 * 61 * 151 * 331 * 1321 := by decide +kernel

/-- What divides M, and is more than 1, has one of the prime factors of M. -/
theorem fac_of (e : Nat) (he : 2 ≤ e) (hd : e ∣ M) : ∃ q ∈ facs, q ∣ e := by
  obtain ⟨p, h2, hp, hl⟩ := least_div e he
  have eu := least_euclid e p h2 hp hl
  have fin : ∀ q ∈ facs, p ∣ q → ∃ q ∈ facs, q ∣ e := by
    intro q hq hpq
    have hle : p ≤ q := Nat.le_of_dvd (by have := fac_prime q hq; revert this; revert hq; unfold facs; simp; omega) hpq
    by_cases hlt : p < q
    · exact absurd hpq (fac_prime q hq p hlt h2)
    · have : p = q := by omega
      subst this
      exact ⟨p, hq, hp⟩
  have hM : p ∣ 2 * 3 * 3 * 5 * 5 * 7 * 11 * 13 * 31 * 41 * 61 * 151 * 331 * 1321 := by rw [← M_facs]; exact Nat.dvd_trans hp hd
  refine (eu _ _ hM).elim (fun hM => ?_) (fun h => fin _ (by decide) h)
  refine (eu _ _ hM).elim (fun hM => ?_) (fun h => fin _ (by decide) h)
  refine (eu _ _ hM).elim (fun hM => ?_) (fun h => fin _ (by decide) h)
  refine (eu _ _ hM).elim (fun hM => ?_) (fun h => fin _ (by decide) h)
  refine (eu _ _ hM).elim (fun hM => ?_) (fun h => fin _ (by decide) h)
  refine (eu _ _ hM).elim (fun hM => ?_) (fun h => fin _ (by decide) h)
  refine (eu _ _ hM).elim (fun hM => ?_) (fun h => fin _ (by decide) h)
  refine (eu _ _ hM).elim (fun hM => ?_) (fun h => fin _ (by decide) h)
  refine (eu _ _ hM).elim (fun hM => ?_) (fun h => fin _ (by decide) h)
  refine (eu _ _ hM).elim (fun hM => ?_) (fun h => fin _ (by decide) h)
  refine (eu _ _ hM).elim (fun hM => ?_) (fun h => fin _ (by decide) h)
  refine (eu _ _ hM).elim (fun hM => ?_) (fun h => fin _ (by decide) h)
  refine (eu _ _ hM).elim (fun hM => ?_) (fun h => fin _ (by decide) h)
  exact fin _ (by decide) hM

/-! ### The generator's order is M -/
theorem pow_add' (g : F) (a b : Nat) : g ^ (a + b) = g ^ a * g ^ b := by grind
theorem one_pow' (a : Nat) : (1 : F) ^ a = 1 := by
  induction a with
  | zero => grind
  | succ a ih => rw [pow_add', ih]; grind
theorem pow_mul' (g : F) (a b : Nat) : g ^ (a * b) = (g ^ a) ^ b := by
  induction b with
  | zero => simp only [Nat.mul_zero]; grind
  | succ b ih => rw [Nat.mul_succ, pow_add', ih]; grind
theorem mul_pow' (g h : F) (a : Nat) : (g * h) ^ a = g ^ a * h ^ a := by
  induction a with
  | zero => grind
  | succ b ih => rw [pow_add', ih, pow_add', pow_add']; grind
theorem add_zero' (x : F) : x + 0 = x := by grind
theorem zero_add' (x : F) : 0 + x = x := by grind
theorem mul_zero' (x : F) : x * 0 = 0 := by grind
theorem zero_mul' (x : F) : 0 * x = 0 := by grind
theorem mul_one' (x : F) : x * 1 = x := by grind
theorem one_mul' (x : F) : 1 * x = x := by grind
theorem zero_sub' (x : F) : 0 - x = -x := by grind
theorem pow_zero' (g : F) : g ^ 0 = 1 := by grind
theorem pow_one' (g : F) : g ^ 1 = g := by grind
theorem M_pos : 0 < M := by unfold M; decide
theorem one_ne : (1 : F) ≠ 0 := by decide +kernel

theorem gen_pow_gcd (a b : Nat) : gen ^ a = 1 → gen ^ b = 1 → gen ^ (Nat.gcd a b) = 1 := by
  induction a, b using Nat.gcd.induction with
  | H0 n => intro _ h; simpa using h
  | H1 m n hm ih =>
    intro h1 h2
    rw [Nat.gcd_rec]
    apply ih _ h1
    have e := Nat.div_add_mod n m
    rw [← e, pow_add', pow_mul', h1, one_pow'] at h2
    grind

theorem gen_order (k : Nat) (hk : 0 < k) (hlt : k < M) : gen ^ k ≠ 1 := by
  intro h
  have hg := gen_pow_gcd k M h gen_M
  have hd : Nat.gcd k M ∣ M := Nat.gcd_dvd_right k M
  have hle : Nat.gcd k M ≤ k := Nat.le_of_dvd hk (Nat.gcd_dvd_left k M)
  obtain ⟨e, he⟩ := hd
  generalize Nat.gcd k M = d at *
  have he2 : 2 ≤ e := by
    rcases e with _ | _ | e
    · rw [Nat.mul_zero] at he; have := M_pos; omega
    · rw [Nat.zero_add, Nat.mul_one] at he; omega
    · omega
  obtain ⟨q, hq, c, hc⟩ := fac_of e he2 ⟨d, by rw [Nat.mul_comm]; exact he⟩
  apply gen_q q hq
  have hq0 : 0 < q := by revert hq; unfold facs; simp; omega
  have : M / q = d * c := by
    rw [he, hc]
    rw [show d * (q * c) = q * (d * c) by grind]
    exact Nat.mul_div_cancel_left _ hq0
  rw [this, pow_mul', hg, one_pow']

theorem gen_unit (k : Nat) (hk : k ≤ M) : gen ^ k * gen ^ (M - k) = 1 := by
  rw [← pow_add', show k + (M - k) = M by omega, gen_M]
theorem gen_ne (k : Nat) (hk : k ≤ M) : gen ^ k ≠ 0 := by
  intro h
  have := gen_unit k hk
  rw [h] at this
  apply one_ne
  grind
theorem gen_inj (i j : Nat) (hi : i < M) (hj : j < M) (h : gen ^ i = gen ^ j) : i = j := by
  have main : ∀ i j, i < M → j < M → i < j → gen ^ i = gen ^ j → False := by
    intro i j hi hj hij h
    have h1 := gen_unit i (by omega)
    have h2 : gen ^ (j - i) = 1 := by
      have e : gen ^ j = gen ^ i * gen ^ (j - i) := by rw [← pow_add', show i + (j - i) = j by omega]
      rw [e] at h
      have : gen ^ (M - i) * gen ^ i = gen ^ (M - i) * (gen ^ i * gen ^ (j - i)) := by rw [← h]
      grind
    exact gen_order (j - i) (by omega) (by omega) h2
  rcases Nat.lt_trichotomy i j with h1 | h1 | h1
  · exact (main i j hi hj h1 h).elim
  · exact h1
  · exact (main j i hj hi h1 h.symm).elim

/-! ### Pigeons -/
theorem pigeon : ∀ (n m : Nat) (f : Nat → Nat), (∀ i, i < m → f i < n) → (∀ i j, i < m → j < m → f i = f j → i = j) → m ≤ n := by
  intro n
  induction n with
  | zero =>
    intro m f h _
    rcases m with _ | m
    · omega
    · have := h 0 (by omega); omega
  | succ n ih =>
    intro m f h hi
    by_cases hx : ∃ i, i < m ∧ f i = n
    · obtain ⟨i0, h0, hf⟩ := hx
      have : m - 1 ≤ n := by
        apply ih (m - 1) (fun i => f (if i < i0 then i else i + 1))
        · intro i him
          have hlt : (if i < i0 then i else i + 1) < m := by split <;> omega
          have h1 := h _ hlt
          have h2 : f (if i < i0 then i else i + 1) ≠ n := by
            intro e
            have := hi _ _ hlt h0 (e.trans hf.symm)
            split at this <;> omega
          omega
        · intro i j him hjm e
          have h1 : (if i < i0 then i else i + 1) < m := by split <;> omega
          have h2 : (if j < i0 then j else j + 1) < m := by split <;> omega
          have := hi _ _ h1 h2 e
          split at this <;> split at this <;> omega
      omega
    · have := ih m f (fun i him => by
        have h1 := h i him
        have h2 : f i ≠ n := fun e => hx ⟨i, him, e⟩
        omega) hi
      omega

/-- Each number but 0 is a power of the generator. -/
theorem gen_all (x : F) (hx : x ≠ 0) : ∃ k, k < M ∧ x = gen ^ k := by
  by_cases h : ∃ k, k < M ∧ x = gen ^ k
  · exact h
  · exfalso
    have hxv : x.val ≠ 0 := by intro e; apply hx; exact Fin.ext e
    have hQM : Q = M + 1 := by unfold Q M; decide
    have key := pigeon (M - 1) M (fun k => if (gen ^ k).val < x.val then (gen ^ k).val - 1 else (gen ^ k).val - 2) (by
      intro i hi
      have h1 : (gen ^ i).val ≠ 0 := by intro e; apply gen_ne i (by omega); exact Fin.ext e
      have h2 : (gen ^ i).val ≠ x.val := by intro e; exact h ⟨i, hi, (Fin.ext e).symm⟩
      have h3 := (gen ^ i).isLt
      have h4 := x.isLt
      split <;> omega) (by
      intro i j hi hj e
      have h1 : (gen ^ i).val ≠ 0 := by intro e; apply gen_ne i (by omega); exact Fin.ext e
      have h2 : (gen ^ i).val ≠ x.val := by intro e; exact h ⟨i, hi, (Fin.ext e).symm⟩
      have h1' : (gen ^ j).val ≠ 0 := by intro e; apply gen_ne j (by omega); exact Fin.ext e
      have h2' : (gen ^ j).val ≠ x.val := by intro e; exact h ⟨j, hj, (Fin.ext e).symm⟩
      have e2 : (gen ^ i).val = (gen ^ j).val := by
        split at e <;> split at e <;> omega
      exact gen_inj i j hi hj (Fin.ext e2))
    have := M_pos
    omega

/-! ### What follows -/
/-- Fermat. -/
theorem fermat (x : F) (hx : x ≠ 0) : x ^ M = 1 := by
  obtain ⟨k, _, rfl⟩ := gen_all x hx
  rw [← pow_mul', Nat.mul_comm, pow_mul', gen_M, one_pow']
theorem mul_ne (x y : F) (hx : x ≠ 0) (hy : y ≠ 0) : x * y ≠ 0 := by
  obtain ⟨k, hk, rfl⟩ := gen_all x hx
  intro h
  have := gen_unit k (by omega)
  apply hy
  grind
theorem mul_eq_zero' (x y : F) : x * y = 0 ↔ x = 0 ∨ y = 0 := by
  constructor
  · intro h
    by_cases hx : x = 0
    · exact .inl hx
    · by_cases hy : y = 0
      · exact .inr hy
      · exact absurd h (mul_ne x y hx hy)
  · rintro (rfl | rfl) <;> grind
/-- What takes a product back: 0 of 0. -/
def inv (x : F) : F := x ^ (M - 1)
theorem zero_pow' (n : Nat) (hn : 0 < n) : (0 : F) ^ n = 0 := by
  obtain ⟨k, rfl⟩ : ∃ k, n = k + 1 := ⟨n - 1, by omega⟩
  rw [pow_add']; grind
theorem inv_zero : inv 0 = 0 := zero_pow' _ (by unfold M; decide)
theorem mul_inv (x : F) (hx : x ≠ 0) : x * inv x = 1 := by
  unfold inv
  have : x * x ^ (M - 1) = x ^ (1 + (M - 1)) := by rw [pow_add', pow_one']
  rw [this, show 1 + (M - 1) = M by unfold M; decide, fermat x hx]
theorem inv_ne (x : F) (hx : x ≠ 0) : inv x ≠ 0 := by
  intro h
  have := mul_inv x hx
  rw [h] at this
  apply one_ne
  grind
theorem inv_inv (x : F) : inv (inv x) = x := by
  by_cases hx : x = 0
  · subst hx; rw [inv_zero, inv_zero]
  · have h1 := mul_inv x hx
    have h2 := mul_inv (inv x) (inv_ne x hx)
    grind
theorem inv_unique (x y : F) (h : x * y = 1) : inv x = y := by
  have hx : x ≠ 0 := by rintro rfl; apply one_ne; grind
  have := mul_inv x hx
  grind

/-! ### The program's numbers and the field -/
/-- A number of the program, in the field. -/
def T (a : Int) : F := Fin.ofNat Q (a % 2305843009213693951).toNat
/-- A number of the field, in the program. -/
def V (x : F) : Int := (x.val : Int)
theorem V_T (a : Int) : V (T a) = a % 2305843009213693951 := by
  unfold V T
  rw [Fin.val_ofNat, Q_eq]
  omega
theorem T_V (x : F) : T (V x) = x := by
  apply Fin.ext
  have := x.isLt
  unfold Q at this
  unfold V T
  rw [Fin.val_ofNat]
  generalize x.val = a at *
  rw [Q_eq]
  omega
theorem V_inj {x y : F} (h : V x = V y) : x = y := by rw [← T_V x, ← T_V y, h]
theorem V_inj_iff (x y : F) : V x = V y ↔ x = y := ⟨V_inj, fun h => by rw [h]⟩
theorem T_eq (a b : Int) : T a = T b ↔ a % 2305843009213693951 = b % 2305843009213693951 := by rw [← V_inj_iff, V_T, V_T]
theorem V_add (x y : F) : V (x + y) = (V x + V y) % 2305843009213693951 := by
  unfold V; rw [Fin.val_add]; generalize x.val = a; generalize y.val = b; rw [Q_eq]; omega
theorem V_mul (x y : F) : V (x * y) = (V x * V y) % 2305843009213693951 := by
  unfold V; rw [Fin.val_mul]; generalize x.val = a; generalize y.val = b; rw [Q_eq]; rfl
theorem V_zero : V 0 = 0 := rfl
theorem V_one : V 1 = 1 := rfl
theorem T_add (a b : Int) : T (a + b) = T a + T b := by
  apply V_inj; rw [V_add, V_T, V_T, V_T]; omega
theorem T_mul (a b : Int) : T (a * b) = T a * T b := by
  apply V_inj; rw [V_mul, V_T, V_T, V_T, Int.mul_emod]
theorem T_zero : T 0 = 0 := rfl
theorem T_one : T 1 = 1 := rfl
theorem T_mod (a : Int) : T (a % 2305843009213693951) = T a := by rw [T_eq]; omega
theorem T_sub (a b : Int) : T (a - b) = T a - T b := by
  have h : T (a - b) + T b = T a := by rw [← T_add]; congr 1; omega
  rw [← h]; grind
theorem T_neg (a : Int) : T (-a) = - T a := by
  have h := T_sub 0 a
  rw [T_zero, Int.zero_sub] at h
  rw [h]; grind
theorem V_sub (x y : F) : V (x - y) = (V x - V y) % 2305843009213693951 := by
  have h : x - y = T (V x - V y) := by rw [T_sub, T_V, T_V]
  rw [h, V_T]
theorem V_neg (x : F) : V (-x) = (- V x) % 2305843009213693951 := by
  have h : -x = T (- V x) := by rw [T_neg, T_V]
  rw [h, V_T]
theorem V_eq_zero (x : F) : V x = 0 ↔ x = 0 := by rw [← V_zero, V_inj_iff]
theorem T_small (a : Int) (h0 : 0 ≤ a) (h1 : a < 2305843009213693951) : V (T a) = a := by rw [V_T]; omega
theorem T_pow (a : Int) (n : Nat) : T (a ^ n) = T a ^ n := by
  induction n with
  | zero => rw [pow_zero', Int.pow_zero, T_one]
  | succ n ih => rw [Int.pow_succ, T_mul, ih, pow_add', pow_one']
theorem V_lo (x : F) : 0 ≤ V x := by unfold V; omega
theorem V_hi (x : F) : V x < 2305843009213693951 := by have := x.isLt; unfold V; unfold Q at this; omega
end Go.Proofs.Ytelnhpcehmdffaa

namespace Go.Proofs.Ytelnhpcehmdffaa

/-- Without noughts at the end. -/
def trimF : List F → List F
  | [] => []
  | a :: p => if trimF p = [] ∧ a = 0 then [] else a :: trimF p

theorem trimF_length (p : List F) : (trimF p).length ≤ p.length := by
  induction p with
  | nil => simp [trimF]
  | cons a p ih => rw [trimF]; split <;> simp <;> omega
theorem trimF_snoc_zero (p : List F) : trimF (p ++ [0]) = trimF p := by
  induction p with
  | nil => simp [trimF]
  | cons a p ih => rw [List.cons_append, trimF, trimF, ih]
theorem trimF_snoc (p : List F) (c : F) (hc : c ≠ 0) : trimF (p ++ [c]) = p ++ [c] := by
  induction p with
  | nil => simp [trimF, hc]
  | cons a p ih => rw [List.cons_append, trimF, ih, if_neg (by simp)]
theorem trimF_take (p : List F) (k : Nat) (hk : k < p.length) (h : p[k] = 0) : trimF (p.take (k + 1)) = trimF (p.take k) := by
  rw [List.take_succ_eq_append_getElem hk, h, trimF_snoc_zero]
theorem trimF_take_ne (p : List F) (k : Nat) (hk : k < p.length) (h : p[k] ≠ 0) : trimF (p.take (k + 1)) = p.take (k + 1) := by
  rw [List.take_succ_eq_append_getElem hk, trimF_snoc _ _ h]

/-! ### Coefficients -/
/-- The coefficient at a power: 0 behind all of them. -/
def coef (p : List F) (i : Nat) : F := p.getD i 0
theorem coef_nil (i : Nat) : coef [] i = 0 := by simp [coef]
theorem coef_zero (a : F) (p : List F) : coef (a :: p) 0 = a := by simp [coef]
theorem coef_succ (a : F) (p : List F) (i : Nat) : coef (a :: p) (i + 1) = coef p i := by simp [coef]
theorem coef_lt {p : List F} {i : Nat} (h : i < p.length) : coef p i = p[i] := by simp [coef, h]
theorem coef_ge {p : List F} {i : Nat} (h : p.length ≤ i) : coef p i = 0 := by simp [coef, List.getElem?_eq_none h]
theorem ext_coef {p q : List F} (hl : p.length = q.length) (h : ∀ i, coef p i = coef q i) : p = q := by
  apply List.ext_getElem hl
  intro i h1 h2
  rw [← coef_lt h1, ← coef_lt h2, h]

/-- A sum, coefficient by coefficient. -/
def addL : List F → List F → List F
  | [], q => q
  | a :: p, [] => a :: p
  | a :: p, b :: q => (a + b) :: addL p q
theorem addL_length (p q : List F) : (addL p q).length = max p.length q.length := by
  induction p generalizing q with
  | nil => simp [addL]
  | cons a p ih => cases q with
    | nil => simp [addL]
    | cons b q => simp only [addL, List.length_cons, ih]; omega
theorem coef_addL (p q : List F) (i : Nat) : coef (addL p q) i = coef p i + coef q i := by
  induction p generalizing q i with
  | nil => rw [addL, coef_nil]; grind
  | cons a p ih => cases q with
    | nil => rw [addL, coef_nil]; grind
    | cons b q => cases i with
      | zero => rw [addL, coef_zero, coef_zero, coef_zero]
      | succ i => rw [addL, coef_succ, coef_succ, coef_succ, ih]
theorem addL_comm (p q : List F) : addL p q = addL q p := by
  apply ext_coef
  · rw [addL_length, addL_length, Nat.max_comm]
  · intro i; rw [coef_addL, coef_addL]; grind

/-! ### Products -/
theorem coef_smul (a : F) (q : List F) (i : Nat) : coef (q.map (a * ·)) i = a * coef q i := by
  by_cases h : i < q.length
  · rw [coef_lt (by simpa using h), coef_lt h, List.getElem_map]
  · rw [coef_ge (by simpa using h), coef_ge (by omega), mul_zero']
/-- A product. -/
def mulL : List F → List F → List F
  | [], _ => []
  | a :: p, q => addL (q.map (a * ·)) (0 :: mulL p q)
theorem mulL_length (p q : List F) (hp : p ≠ []) (hq : q ≠ []) : (mulL p q).length = p.length + q.length - 1 := by
  induction p with
  | nil => exact absurd rfl hp
  | cons a p ih =>
    have hq' : 0 < q.length := List.length_pos_iff.2 hq
    rw [mulL, addL_length, List.length_map, List.length_cons, List.length_cons]
    cases p with
    | nil => simp [mulL]; omega
    | cons b p => rw [ih (by simp), List.length_cons]; omega
theorem coef_mulL_cons (a : F) (p q : List F) (i : Nat) : coef (mulL (a :: p) q) i = a * coef q i + coef (0 :: mulL p q) i := by
  rw [mulL, coef_addL, coef_smul]
/-- One more row. -/
theorem coef_mulL_snoc (p q : List F) (a : F) (j : Nat) : coef (mulL (p ++ [a]) q) j = coef (mulL p q) j + if p.length ≤ j then a * coef q (j - p.length) else 0 := by
  induction p generalizing j with
  | nil =>
    rw [List.nil_append, coef_mulL_cons, mulL, coef_nil]
    simp only [List.length_nil, Nat.zero_le, if_true, Nat.sub_zero]
    cases j with
    | zero => rw [coef_zero, add_zero', zero_add']
    | succ j => rw [coef_succ, coef_nil, add_zero', zero_add']
  | cons b p ih =>
    rw [List.cons_append, coef_mulL_cons, coef_mulL_cons]
    cases j with
    | zero => rw [coef_zero, coef_zero, if_neg (by simp), add_zero', add_zero']
    | succ j =>
      rw [coef_succ, coef_succ, ih, List.length_cons]
      by_cases h : p.length ≤ j
      · rw [if_pos h, if_pos (by omega), Nat.add_sub_add_right]; grind
      · rw [if_neg h, if_neg (by omega)]; grind
theorem coef_take (q : List F) (k j : Nat) : coef (q.take k) j = if j < k then coef q j else 0 := by
  by_cases h : j < k
  · rw [if_pos h]
    by_cases h2 : j < q.length
    · rw [coef_lt (by rw [List.length_take]; omega), coef_lt h2, List.getElem_take]
    · rw [coef_ge (by rw [List.length_take]; omega), coef_ge (by omega)]
  · rw [if_neg h, coef_ge (by rw [List.length_take]; omega)]

/-- What stands at j after i rows and k products of the next row. -/
def mulAt (p q : List F) (i k j : Nat) : F := coef (mulL (p.take i) q) j + if i ≤ j then coef p i * coef (q.take k) (j - i) else 0
theorem mulAt_zero (p q : List F) (j : Nat) : mulAt p q 0 0 j = 0 := by
  unfold mulAt
  rw [List.take_zero, List.take_zero, mulL, coef_nil, coef_nil, mul_zero']
  split <;> exact add_zero' _
theorem mulAt_row (p q : List F) (i j : Nat) (hi : i < p.length) : mulAt p q i q.length j = mulAt p q (i + 1) 0 j := by
  unfold mulAt
  rw [List.take_succ_eq_append_getElem hi, coef_mulL_snoc, List.take_zero, coef_nil, mul_zero', List.length_take, List.take_of_length_le (Nat.le_refl _), Nat.min_eq_left (by omega), coef_lt hi]
  split <;> split <;> grind
theorem mulAt_step (p q : List F) (i k : Nat) (j : Nat) :
    mulAt p q i (k + 1) j = if j = i + k then mulAt p q i k (i + k) + coef p i * coef q k else mulAt p q i k j := by
  unfold mulAt
  by_cases h : j = i + k
  · subst h
    rw [if_pos rfl, if_pos (by omega), if_pos (by omega), coef_take, coef_take, if_pos (by omega), if_neg (by omega), Nat.add_sub_cancel_left]; grind
  · rw [if_neg h]
    congr 1
    by_cases h2 : i ≤ j
    · rw [if_pos h2, if_pos h2, coef_take, coef_take]
      by_cases h3 : j - i < k
      · rw [if_pos h3, if_pos (by omega)]
      · rw [if_neg h3, if_neg (by omega)]
    · rw [if_neg h2, if_neg h2]
theorem mulAt_all (p q : List F) (j : Nat) : mulAt p q p.length 0 j = coef (mulL p q) j := by
  unfold mulAt
  rw [List.take_of_length_le (Nat.le_refl _), List.take_zero, coef_nil, mul_zero']
  split <;> exact add_zero' _
theorem mulL_eq (p q : List F) (hp : p ≠ []) (hq : q ≠ []) : (List.range (p.length + q.length - 1)).map (mulAt p q p.length 0) = mulL p q := by
  apply ext_coef
  · rw [List.length_map, List.length_range, mulL_length p q hp hq]
  · intro j
    by_cases h : j < p.length + q.length - 1
    · rw [coef_lt (by simpa using h), List.getElem_map, List.getElem_range, mulAt_all]
    · rw [coef_ge (by simpa using h), coef_ge (by rw [mulL_length p q hp hq]; omega)]

/-! ### Values -/
/-- The value at a number. -/
def ev : List F → F → F
  | [], _ => 0
  | a :: p, x => a + x * ev p x
theorem ev_drop (p : List F) (x : F) (k : Nat) (h : k < p.length) : ev (p.drop k) x = ev (p.drop (k + 1)) x * x + coef p k := by
  rw [List.drop_eq_getElem_cons h, ev, coef_lt h]; grind
end Go.Proofs.Ytelnhpcehmdffaa

namespace Go.Proofs.Ytelnhpcehmdffaa

theorem ev_trimF (p : List F) (x : F) : ev (trimF p) x = ev p x := by
  induction p with
  | nil => rfl
  | cons a p ih =>
    rw [trimF]
    by_cases h : trimF p = [] ∧ a = 0
    · rw [if_pos h, ev, ev, ← ih, h.1, h.2, ev, mul_zero', add_zero']
    · rw [if_neg h, ev, ev, ih]
theorem ev_addL (p q : List F) (x : F) : ev (addL p q) x = ev p x + ev q x := by
  induction p generalizing q with
  | nil => rw [addL, ev, zero_add']
  | cons a p ih => cases q with
    | nil => rw [addL, ev]; show _ = _ + 0; rw [add_zero', ev]
    | cons b q => rw [addL, ev, ev, ev, ih]; grind
theorem ev_smul (a : F) (q : List F) (x : F) : ev (q.map (a * ·)) x = a * ev q x := by
  induction q with
  | nil => rw [List.map_nil, ev, mul_zero']
  | cons b q ih => rw [List.map_cons, ev, ev, ih]; grind
theorem ev_mulL (p q : List F) (x : F) : ev (mulL p q) x = ev p x * ev q x := by
  induction p with
  | nil => rw [mulL, ev, zero_mul']
  | cons a p ih => rw [mulL, ev_addL, ev_smul, ev, ev, ih]; grind

/-! ### Roots -/
/-- Division by x less r, from the top. -/
def syn (r : F) : List F → List F
  | [] => []
  | [_] => []
  | _ :: b :: p => ev (b :: p) r :: syn r (b :: p)
theorem syn_length (r : F) (p : List F) : (syn r p).length = p.length - 1 := by
  induction p with
  | nil => rfl
  | cons a p ih => cases p with
    | nil => rfl
    | cons b p => rw [syn, List.length_cons, ih]; simp
theorem syn_ev (r : F) (p : List F) (x : F) : ev p x = (x - r) * ev (syn r p) x + ev p r := by
  induction p with
  | nil => simp only [syn, ev, mul_zero', add_zero']
  | cons a p ih => cases p with
    | nil => simp only [syn, ev, mul_zero', add_zero', zero_add']
    | cons b p =>
      have e1 : ev (a :: b :: p) x = a + x * ev (b :: p) x := rfl
      have e2 : ev (a :: b :: p) r = a + r * ev (b :: p) r := rfl
      rw [syn, e1, e2, ih]
      show _ = (x - r) * (ev (b :: p) r + x * ev (syn r (b :: p)) x) + _
      grind

theorem add_neg_one (x : F) : x + -1 * x = 0 := by grind
theorem sub_ne {x y : F} (h : x ≠ y) : x - y ≠ 0 := fun e => h (by grind)

/-- No more roots than the degree: what is 0 at as many unlike numbers as it has coefficients is 0 everywhere. -/
theorem roots_zero : ∀ (n : Nat) (p : List F) (l : List F), p.length ≤ n → l.Nodup → n ≤ l.length → (∀ x ∈ l, ev p x = 0) → ∀ x, ev p x = 0 := by
  intro n
  induction n with
  | zero =>
    intro p l hp _ _ _ x
    rw [List.eq_nil_of_length_eq_zero (l := p) (by omega)]
    rfl
  | succ n ih =>
    intro p l hp hd hl hz x
    cases l with
    | nil => simp at hl
    | cons r l =>
      rw [List.nodup_cons] at hd
      have hr := hz r (by simp)
      have h1 : ∀ y, ev p y = (y - r) * ev (syn r p) y := fun y => by rw [syn_ev r p y, hr, add_zero']
      have h2 := ih (syn r p) l (by rw [syn_length]; omega) hd.2 (by simpa using hl) (fun y hy => by
        have hy0 := hz y (by simp [hy])
        rw [h1] at hy0
        have hne : y ≠ r := fun e => hd.1 (e ▸ hy)
        rcases (mul_eq_zero' _ _).1 hy0 with h | h
        · exact absurd h (sub_ne hne)
        · exact h)
      rw [h1, h2, mul_zero']

/-- All the field's numbers. -/
theorem all_nodup : (List.finRange Q).Nodup := List.nodup_finRange Q

/-- .. and if it is 0 everywhere, and is not longer than the field is great, all coefficients are 0. -/
theorem zero_coef : ∀ (n : Nat) (p : List F) (l : List F), p.length ≤ n → l.Nodup → n ≤ l.length → (∀ x ∈ l, ev p x = 0) → trimF p = [] := by
  intro n
  induction n with
  | zero => intro p l hp _ _ _; rw [List.eq_nil_of_length_eq_zero (l := p) (by omega)]; rfl
  | succ n ih =>
    intro p l hp hd hl hz
    cases p with
    | nil => rfl
    | cons a p =>
      have h0 : a = 0 := by
        have := roots_zero (n + 1) (a :: p) l hp hd hl hz 0
        rw [ev] at this; grind
      cases hl' : l with
      | nil => rw [hl'] at hl; simp at hl
      | cons r l' =>
        -- 0 taken out of the numbers
        have hz' : ∀ x ∈ l.erase 0, ev p x = 0 := fun x hx => by
          have hx1 := List.mem_of_mem_erase hx
          have hx2 : x ≠ 0 := fun e => by subst e; exact (hd.not_mem_erase hx)
          have := hz x hx1
          rw [ev, h0, zero_add'] at this
          exact ((mul_eq_zero' _ _).1 this).resolve_left hx2
        have := ih p (l.erase 0) (by simpa using hp) (hd.erase 0) (by rw [List.length_erase]; split <;> omega) hz'
        rw [trimF, this, h0]; simp

/-- Two lists without noughts at the end that agree at as many unlike numbers as either is long are the same. -/
theorem trimF_zero_sub (p q : List F) (h : trimF (addL p (q.map (-1 * ·))) = []) : trimF p = trimF q := by
  induction p generalizing q with
  | nil =>
    rw [addL] at h
    induction q with
    | nil => rfl
    | cons b q ih =>
      rw [List.map_cons, trimF] at h
      split at h
      · rename_i h1
        have hb : b = 0 := by have := h1.2; grind
        have := ih h1.1
        have h2 : trimF q = [] := this.symm
        have h3 : trimF (b :: q) = [] := by rw [trimF, h2, hb]; simp
        rw [h3]; rfl
      · cases h
  | cons a p ih => cases q with
    | nil => rw [List.map_nil, addL] at h; rw [h]; rfl
    | cons b q =>
      rw [List.map_cons, addL, trimF] at h
      split at h
      · rename_i h1
        have hab : a = b := by have := h1.2; grind
        rw [trimF, trimF, ih q h1.1, hab]
      · cases h
theorem same_of_values (p q : List F) (l : List F) (hp : p.length ≤ l.length) (hq : q.length ≤ l.length) (hd : l.Nodup) (h : ∀ x ∈ l, ev p x = ev q x) : trimF p = trimF q := by
  apply trimF_zero_sub
  refine zero_coef l.length _ l ?_ hd (Nat.le_refl _) ?_
  · rw [addL_length, List.length_map]; omega
  · intro x hx
    rw [ev_addL, ev_smul, h x hx, add_neg_one]

/-! ### What has given values -/
/-- fs is what the document's From tells of places and values: nothing if a place stands twice; else the least polynomial that has the values. -/
structure FromOk (xs ys fs : List F) : Prop where
  no : ¬ xs.Nodup → fs = []
  trim : xs.Nodup → trimF fs = fs
  len : xs.Nodup → fs.length ≤ xs.length
  val : xs.Nodup → ∀ i, i < xs.length → ev fs (coef xs i) = coef ys i
theorem FromOk.same {xs ys fs gs : List F} (h : FromOk xs ys fs) (k : FromOk xs ys gs) : fs = gs := by
  by_cases hd : xs.Nodup
  · rw [← h.trim hd, ← k.trim hd]
    refine same_of_values fs gs xs (h.len hd) (k.len hd) hd fun x hx => ?_
    obtain ⟨i, hi, rfl⟩ := List.getElem_of_mem hx
    rw [← coef_lt hi, h.val hd i hi, k.val hd i hi]
  · rw [h.no hd, k.no hd]

/-- Newton's state after i places, all unlike. -/
structure NewtonOk (xs ys : List F) (i : Nat) (S A : List F) : Prop where
  dist : (xs.take i).Nodup
  strim : trimF S = S
  atrim : trimF A = A
  slen : S.length ≤ i
  alen : A.length ≤ i + 1
  sval : ∀ k, k < i → ev S (coef xs k) = coef ys k
  azero : ∀ k, k < i → ev A (coef xs k) = 0
  ane : ∀ z, (∀ k, k < i → z ≠ coef xs k) → ev A z ≠ 0
theorem newton_start (xs ys : List F) : NewtonOk xs ys 0 [] [1] where
  dist := by simp
  strim := rfl
  atrim := trimF_snoc [] 1 one_ne
  slen := Nat.le_refl _
  alen := Nat.le_refl _
  sval := fun k hk => absurd hk (by omega)
  azero := fun k hk => absurd hk (by omega)
  ane := fun z _ => by rw [ev, ev, mul_zero', add_zero']; exact one_ne
theorem nodup_take_succ {l : List F} {i : Nat} (hi : i < l.length) : (l.take (i + 1)).Nodup ↔ (l.take i).Nodup ∧ ∀ k, k < i → coef l i ≠ coef l k := by
  rw [List.take_succ_eq_append_getElem hi, List.nodup_append]
  constructor
  · rintro ⟨h1, _, h3⟩
    refine ⟨h1, fun k hk e => ?_⟩
    refine h3 (coef l k) ?_ (coef l i) (by rw [coef_lt hi]; simp) e.symm
    rw [coef_lt (by omega)]
    exact List.mem_take_iff_getElem.2 ⟨k, by omega, rfl⟩
  · rintro ⟨h1, h2⟩
    refine ⟨h1, by simp, fun a ha b hb e => ?_⟩
    obtain ⟨k, hk, hk2⟩ := List.mem_take_iff_getElem.1 ha
    rw [List.mem_singleton] at hb
    refine h2 k (by omega) ?_
    rw [coef_lt hi, coef_lt (by omega), hk2, e, hb]
theorem trimF_trimF (p : List F) : trimF (trimF p) = trimF p := by
  induction p with
  | nil => rfl
  | cons a p ih =>
    rw [trimF]
    by_cases h : trimF p = [] ∧ a = 0
    · rw [if_pos h]; rfl
    · rw [if_neg h, trimF, ih, if_neg h]
theorem newton_dup {xs ys : List F} {i : Nat} {S A : List F} (h : NewtonOk xs ys i S A) (hi : i < xs.length) (h0 : ev A (coef xs i) = 0) : ¬ xs.Nodup := by
  intro hd
  have hd2 : (xs.take (i + 1)).Nodup := hd.sublist (List.take_sublist _ _)
  exact h.ane _ ((nodup_take_succ hi).1 hd2).2 h0
theorem newton_step {xs ys : List F} {i : Nat} {S A : List F} (h : NewtonOk xs ys i S A) (hi : i < xs.length) (h0 : ev A (coef xs i) ≠ 0) :
    NewtonOk xs ys (i + 1) (trimF (addL S (trimF (mulL (trimF A) (trimF [(coef ys i - ev S (coef xs i)) * inv (ev A (coef xs i))])))))
      (trimF (mulL (trimF A) (trimF [- coef xs i, 1]))) where
  dist := (nodup_take_succ hi).2 ⟨h.dist, fun k hk e => h0 (by rw [e]; exact h.azero k hk)⟩
  strim := trimF_trimF _
  atrim := trimF_trimF _
  slen := by
    refine Nat.le_trans (trimF_length _) ?_
    rw [addL_length]
    refine Nat.max_le.2 ⟨by have := h.slen; omega, Nat.le_trans (trimF_length _) ?_⟩
    by_cases hA : trimF A = []
    · rw [hA, mulL]; simp
    by_cases hC : trimF [(coef ys i - ev S (coef xs i)) * inv (ev A (coef xs i))] = []
    · rw [hC]
      have := trimF_length A
      have := h.alen
      have e : ∀ p : List F, (mulL p []).length ≤ p.length := by
        intro p; induction p with
        | nil => simp [mulL]
        | cons a p ih => rw [mulL, addL_length]; simp; omega
      have := e (trimF A)
      omega
    · rw [mulL_length _ _ hA hC]
      have := trimF_length A
      have := h.alen
      have := trimF_length [(coef ys i - ev S (coef xs i)) * inv (ev A (coef xs i))]
      simp only [List.length_cons, List.length_nil] at this
      omega
  alen := by
    refine Nat.le_trans (trimF_length _) ?_
    by_cases hA : trimF A = []
    · rw [hA, mulL]; simp
    · have e : trimF [- coef xs i, 1] = [- coef xs i, 1] := trimF_snoc [- coef xs i] 1 one_ne
      rw [e, mulL_length _ _ hA (by simp)]
      have := trimF_length A
      have := h.alen
      simp only [List.length_cons, List.length_nil]
      omega
  sval := fun k hk => by
    rw [ev_trimF, ev_addL, ev_trimF, ev_mulL, ev_trimF, ev_trimF]
    by_cases hk2 : k < i
    · rw [h.sval k hk2, h.azero k hk2, zero_mul', add_zero']
    · obtain rfl : k = i := by omega
      have := mul_inv _ h0
      rw [ev, ev, mul_zero', add_zero']
      grind
  azero := fun k hk => by
    rw [ev_trimF, ev_mulL, ev_trimF, ev_trimF]
    by_cases hk2 : k < i
    · rw [h.azero k hk2, zero_mul']
    · obtain rfl : k = i := by omega
      have : ev [- coef xs k, 1] (coef xs k) = 0 := by
        show - coef xs k + coef xs k * (1 + coef xs k * 0) = 0
        grind
      rw [this, mul_zero']
  ane := fun z hz => by
    rw [ev_trimF, ev_mulL, ev_trimF, ev_trimF]
    refine mul_ne _ _ (h.ane z fun k hk => hz k (by omega)) ?_
    have : ev [- coef xs i, 1] z = z - coef xs i := by
      show - coef xs i + z * (1 + z * 0) = _
      grind
    rw [this]
    exact sub_ne (hz i (by omega))
theorem newton_end {xs ys : List F} {S A : List F} (h : NewtonOk xs ys xs.length S A) : FromOk xs ys S where
  no := fun hn => absurd (by have := h.dist; rwa [List.take_of_length_le (Nat.le_refl _)] at this) hn
  trim := fun _ => h.strim
  len := fun _ => h.slen
  val := fun _ => h.sval
theorem from_dup {xs ys : List F} (h : ¬ xs.Nodup) : FromOk xs ys [] := ⟨fun _ => rfl, fun hd => absurd hd h, fun hd => absurd hd h, fun hd => absurd hd h⟩

/-! ### What is trimmed hangs on the coefficients alone -/
theorem coef_trimF (p : List F) (i : Nat) : coef (trimF p) i = coef p i := by
  induction p generalizing i with
  | nil => rfl
  | cons a p ih =>
    rw [trimF]
    by_cases h : trimF p = [] ∧ a = 0
    · rw [if_pos h, coef_nil]
      cases i with
      | zero => rw [coef_zero, h.2]
      | succ i => rw [coef_succ, ← ih, h.1, coef_nil]
    · rw [if_neg h]
      cases i with
      | zero => rw [coef_zero, coef_zero]
      | succ i => rw [coef_succ, coef_succ, ih]
theorem trimF_none {p : List F} (h : ∀ i, coef p i = 0) : trimF p = [] := by
  induction p with
  | nil => rfl
  | cons a p ih =>
    have h0 := h 0
    rw [coef_zero] at h0
    rw [trimF, ih (fun i => by have := h (i + 1); rwa [coef_succ] at this), h0]; simp
theorem trimF_congr {p q : List F} (h : ∀ i, coef p i = coef q i) : trimF p = trimF q := by
  induction p generalizing q with
  | nil => rw [trimF_none (p := q) (fun i => by rw [← h, coef_nil])]; rfl
  | cons a p ih => cases q with
    | nil => rw [trimF_none (p := a :: p) (fun i => by rw [h, coef_nil])]; rfl
    | cons b q =>
      have h0 := h 0
      rw [coef_zero, coef_zero] at h0
      rw [trimF, trimF, ih (q := q) (fun i => by have := h (i + 1); rwa [coef_succ, coef_succ] at this), h0]

/-- The sum of the first n. -/
def sumF (f : Nat → F) : Nat → F
  | 0 => 0
  | n + 1 => sumF f n + f n
theorem sumF_first (f : Nat → F) (n : Nat) : sumF f (n + 1) = f 0 + sumF (fun i => f (i + 1)) n := by
  induction n with
  | zero => rw [sumF, sumF, sumF, zero_add', add_zero']
  | succ n ih => rw [sumF, ih, sumF]; grind
theorem sumF_zero (f : Nat → F) (h : ∀ i, f i = 0) (n : Nat) : sumF f n = 0 := by
  induction n with
  | zero => rfl
  | succ n ih => rw [sumF, ih, h, add_zero']
theorem sumF_congr {f g : Nat → F} (n : Nat) (h : ∀ i, i < n → f i = g i) : sumF f n = sumF g n := by
  induction n with
  | zero => rfl
  | succ n ih => rw [sumF, sumF, ih (fun i hi => h i (by omega)), h n (by omega)]
theorem coef_mulL_sum (p q : List F) (k : Nat) : coef (mulL p q) k = sumF (fun i => coef p i * coef q (k - i)) (k + 1) := by
  induction p generalizing k with
  | nil => rw [mulL, coef_nil, sumF_zero _ (fun i => by rw [coef_nil, zero_mul'])]
  | cons a p ih =>
    rw [coef_mulL_cons, sumF_first, coef_zero, Nat.sub_zero]
    congr 1
    cases k with
    | zero => rw [coef_zero]; rfl
    | succ k =>
      rw [coef_succ, ih]
      apply sumF_congr
      intro i _
      rw [coef_succ, Nat.add_sub_add_right]
theorem mulL_congr {p q r s : List F} (h : ∀ i, coef p i = coef q i) (k : ∀ i, coef r i = coef s i) (i : Nat) : coef (mulL p r) i = coef (mulL q s) i := by
  rw [coef_mulL_sum, coef_mulL_sum]
  exact sumF_congr _ (fun j _ => by rw [h, k])
/-- Products of what is trimmed. -/
theorem trimF_mul_trim (p q : List F) : trimF (mulL (trimF p) (trimF q)) = trimF (mulL p q) :=
  trimF_congr (mulL_congr (coef_trimF p) (coef_trimF q))
theorem trimF_add_trim (p q : List F) : trimF (addL (trimF p) (trimF q)) = trimF (addL p q) :=
  trimF_congr fun i => by rw [coef_addL, coef_addL, coef_trimF, coef_trimF]
theorem coef_range (n : Nat) (f : Nat → F) (i : Nat) : coef ((List.range n).map f) i = if i < n then f i else 0 := by
  by_cases h : i < n
  · rw [if_pos h, coef_lt (by simpa using h)]; simp
  · rw [if_neg h, coef_ge (by simpa using h)]
theorem addL_range (p q : List F) : (List.range (max p.length q.length)).map (fun i => coef p i + coef q i) = addL p q := by
  apply ext_coef
  · rw [addL_length]; simp
  · intro i
    rw [coef_range, coef_addL]
    by_cases h : i < max p.length q.length
    · rw [if_pos h]
    · rw [if_neg h, coef_ge (p := p) (by omega), coef_ge (p := q) (by omega), add_zero']
theorem mulL_range (p q : List F) : trimF ((List.range (p.length + q.length - 1)).map (fun i => coef (mulL p q) i)) = trimF (mulL p q) := by
  apply trimF_congr
  intro i
  rw [coef_range]
  by_cases h : i < p.length + q.length - 1
  · rw [if_pos h]
  · rw [if_neg h, coef_mulL_sum, sumF_zero]
    intro j
    by_cases hj : j < p.length
    · rw [coef_ge (p := q) (by omega), mul_zero']
    · rw [coef_ge (by omega), zero_mul']
end Go.Proofs.Ytelnhpcehmdffaa

namespace Go.Proofs.Ytelnhpcehmdffaa

theorem ev_scale (p : List F) (y x : F) : ev (p.map (· * y)) x = ev p x * y := by
  induction p with
  | nil => rw [List.map_nil, ev, zero_mul']
  | cons a p ih => rw [List.map_cons, ev, ev, ih]; grind
theorem ev_lin (a z : F) : ev [-a, 1] z = z - a := by
  show -a + z * (1 + z * 0) = _
  grind

/-- A part after k places: y_i at the i-th place, 0 at the others so far. -/
structure PartOk (xs : List F) (i : Nat) (y : F) (k : Nat) (P : List F) : Prop where
  here : ev P (coef xs i) = y
  zero : ∀ j, j < k → j ≠ i → ev P (coef xs j) = 0
  dist : ∀ j, j < k → j ≠ i → coef xs i ≠ coef xs j
  len : P.length ≤ if k ≤ i then k + 1 else k
theorem part_start (xs : List F) (i : Nat) (y : F) : PartOk xs i y 0 [y] where
  here := by rw [ev, ev, mul_zero', add_zero']
  zero := fun j hj => absurd hj (by omega)
  dist := fun j hj => absurd hj (by omega)
  len := by rw [if_pos (by omega)]; exact Nat.le_refl _
theorem part_skip {xs : List F} {i : Nat} {y : F} {P : List F} (h : PartOk xs i y i P) : PartOk xs i y (i + 1) P where
  here := h.here
  zero := fun j hj hne => h.zero j (by omega) hne
  dist := fun j hj hne => h.dist j (by omega) hne
  len := by have := h.len; rw [if_pos (by omega)] at this; rw [if_neg (by omega)]; exact this
theorem part_step {xs : List F} {i k : Nat} {y : F} {P : List F} (h : PartOk xs i y k P) (hk : k ≠ i) (hd : coef xs i - coef xs k ≠ 0) :
    PartOk xs i y (k + 1) (trimF ((trimF (mulL P [- coef xs k, 1])).map (· * inv (coef xs i - coef xs k)))) where
  here := by
    rw [ev_trimF, ev_scale, ev_trimF, ev_mulL, ev_lin, h.here]
    have := mul_inv _ hd
    grind
  zero := fun j hj hne => by
    rw [ev_trimF, ev_scale, ev_trimF, ev_mulL, ev_lin]
    by_cases hjk : j = k
    · subst hjk
      rw [show coef xs j - coef xs j = 0 by grind, mul_zero', zero_mul']
    · rw [h.zero j (by omega) hne, zero_mul', zero_mul']
  dist := fun j hj hne => by
    by_cases hjk : j = k
    · subst hjk
      intro e
      apply hd
      rw [e]; grind
    · exact h.dist j (by omega) hne
  len := by
    have h1 := h.len
    have h2 := trimF_length ((trimF (mulL P [- coef xs k, 1])).map (· * inv (coef xs i - coef xs k)))
    rw [List.length_map] at h2
    have h3 := trimF_length (mulL P [- coef xs k, 1])
    have h4 : (mulL P [- coef xs k, 1]).length ≤ P.length + 1 := by
      by_cases hP : P = []
      · subst hP; simp [mulL]
      · rw [mulL_length P _ hP (by simp)]; simp
    split at h1 <;> split <;> omega

/-- Lagrange's state after i places. -/
structure LagOk (xs ys : List F) (i : Nat) (S : List F) : Prop where
  trim : trimF S = S
  len : S.length ≤ xs.length
  val : ∀ j, j < xs.length → ev S (coef xs j) = if j < i then coef ys j else 0
  dist : ∀ a b, a < i → b < xs.length → b ≠ a → coef xs a ≠ coef xs b
theorem lag_start (xs ys : List F) : LagOk xs ys 0 [] where
  trim := rfl
  len := Nat.zero_le _
  val := fun j _ => by rw [if_neg (by omega)]; rfl
  dist := fun a b ha => absurd ha (by omega)
theorem lag_step {xs ys : List F} {i : Nat} {S P : List F} (h : LagOk xs ys i S) (hi : i < xs.length) (k : PartOk xs i (coef ys i) xs.length P) : LagOk xs ys (i + 1) (trimF (addL S P)) where
  trim := trimF_trimF _
  len := by
    refine Nat.le_trans (trimF_length _) ?_
    rw [addL_length]
    have h1 := k.len
    rw [if_neg (by omega)] at h1
    exact Nat.max_le.2 ⟨h.len, h1⟩
  val := fun j hj => by
    rw [ev_trimF, ev_addL, h.val j hj]
    by_cases hji : j = i
    · subst hji; rw [k.here, if_neg (by omega), if_pos (by omega), zero_add']
    · rw [k.zero j hj hji, add_zero']
      by_cases h2 : j < i
      · rw [if_pos h2, if_pos (by omega)]
      · rw [if_neg h2, if_neg (by omega)]
  dist := fun a b ha hb hne => by
    by_cases hai : a = i
    · subst hai; exact k.dist b hb hne
    · exact h.dist a b (by omega) hb hne
theorem lag_nodup {xs ys : List F} {S : List F} (h : LagOk xs ys xs.length S) : xs.Nodup := by
  rw [List.nodup_iff_pairwise_ne, List.pairwise_iff_getElem]
  intro a b ha hb hab e
  exact h.dist a b ha hb (by omega) (by rw [coef_lt ha, coef_lt hb, e])
theorem lag_end {xs ys : List F} {S : List F} (h : LagOk xs ys xs.length S) : FromOk xs ys S where
  no := fun hn => absurd (lag_nodup h) hn
  trim := fun _ => h.trim
  len := fun _ => h.len
  val := fun _ j hj => by rw [h.val j hj, if_pos hj]
theorem lag_dup {xs : List F} {i k : Nat} (hi : i < xs.length) (hk : k < xs.length) (hne : k ≠ i) (h0 : coef xs i - coef xs k = 0) : ¬ xs.Nodup := by
  intro hd
  have e : coef xs i = coef xs k := by grind
  rw [coef_lt hi, coef_lt hk] at e
  exact hne (List.getElem_inj hd |>.1 e).symm
end Go.Proofs.Ytelnhpcehmdffaa

namespace Go.Proofs.Ytelnhpcehmdffaa

/-! ### Coefficients of products -/
theorem mulL_nil_coef (q : List F) (i : Nat) : coef (mulL [] q) i = 0 := by rw [mulL, coef_nil]
theorem coef_cons_succ (a : F) (p : List F) (i : Nat) : coef (a :: p) (i + 1) = coef p i := coef_succ a p i
theorem mulL_add_left (p p' q : List F) : ∀ i, coef (mulL (addL p p') q) i = coef (mulL p q) i + coef (mulL p' q) i := by
  induction p generalizing p' with
  | nil => intro i; rw [addL, mulL, coef_nil, zero_add']
  | cons a p ih => cases p' with
    | nil => intro i; rw [addL, mulL_nil_coef, add_zero']
    | cons b p' =>
      intro i
      rw [addL, coef_mulL_cons, coef_mulL_cons, coef_mulL_cons]
      cases i with
      | zero => rw [coef_zero, coef_zero, coef_zero]; grind
      | succ i => rw [coef_succ, coef_succ, coef_succ, ih]; grind
theorem mulL_add_right (p q q' : List F) : ∀ i, coef (mulL p (addL q q')) i = coef (mulL p q) i + coef (mulL p q') i := by
  induction p with
  | nil => intro i; rw [mulL_nil_coef, mulL_nil_coef, mulL_nil_coef, add_zero']
  | cons a p ih =>
    intro i
    rw [coef_mulL_cons, coef_mulL_cons, coef_mulL_cons, coef_addL]
    cases i with
    | zero => rw [coef_zero, coef_zero, coef_zero]; grind
    | succ i => rw [coef_succ, coef_succ, coef_succ, ih]; grind
theorem mulL_smul (a : F) (p q : List F) : ∀ i, coef (mulL (p.map (a * ·)) q) i = a * coef (mulL p q) i := by
  induction p with
  | nil => intro i; rw [List.map_nil, mulL_nil_coef, mul_zero']
  | cons b p ih =>
    intro i
    rw [List.map_cons, coef_mulL_cons, coef_mulL_cons]
    cases i with
    | zero => rw [coef_zero, coef_zero]; grind
    | succ i => rw [coef_succ, coef_succ, ih]; grind
theorem mulL_shift (p q : List F) : ∀ i, coef (mulL (0 :: p) q) i = coef (0 :: mulL p q) i := by
  intro i; rw [coef_mulL_cons]; grind
theorem mulL_cons_right (p : List F) (b : F) (q : List F) : ∀ i, coef (mulL p (b :: q)) i = b * coef p i + coef (0 :: mulL p q) i := by
  induction p with
  | nil =>
    intro i
    rw [mulL_nil_coef, coef_nil]
    cases i with
    | zero => rw [coef_zero, mul_zero', add_zero']
    | succ i => rw [coef_succ, mulL_nil_coef, mul_zero', add_zero']
  | cons a p ih =>
    intro i
    rw [coef_mulL_cons]
    cases i with
    | zero => rw [coef_zero, coef_zero, coef_zero, coef_zero]; grind
    | succ i =>
      rw [coef_succ, coef_succ, coef_succ, coef_succ, ih, coef_mulL_cons]; grind
theorem mulL_comm (p q : List F) : ∀ i, coef (mulL p q) i = coef (mulL q p) i := by
  induction p with
  | nil =>
    intro i
    rw [mulL_nil_coef]
    induction q generalizing i with
    | nil => rw [mulL_nil_coef]
    | cons b q ih =>
      rw [coef_mulL_cons, coef_nil]
      cases i with
      | zero => rw [coef_zero, mul_zero', add_zero']
      | succ i => rw [coef_succ, ← ih, mul_zero', add_zero']
  | cons a p ih =>
    intro i
    rw [coef_mulL_cons, mulL_cons_right]
    cases i with
    | zero => rw [coef_zero, coef_zero]
    | succ i => rw [coef_succ, coef_succ, ih]
theorem mulL_assoc (p q r : List F) : ∀ i, coef (mulL (mulL p q) r) i = coef (mulL p (mulL q r)) i := by
  induction p with
  | nil => intro i; rw [mulL_nil_coef, mulL, mulL_nil_coef]
  | cons a p ih =>
    intro i
    rw [mulL, mulL_add_left, mulL_smul, mulL_shift, coef_mulL_cons]
    cases i with
    | zero => rw [coef_zero, coef_zero]
    | succ i => rw [coef_succ, coef_succ, ih]
theorem mulL_one (p : List F) : ∀ i, coef (mulL p [1]) i = coef p i := by
  intro i
  rw [mulL_comm, coef_mulL_cons]
  cases i with
  | zero => rw [coef_zero]; grind
  | succ i => rw [coef_succ, mulL_nil_coef]; grind

/-! ### The ring -/
/-- A polynomial. -/
structure Pol where
  l : List F
  tr : trimF l = l
namespace Pol
theorem ext {p q : Pol} (h : ∀ i, coef p.l i = coef q.l i) : p = q := by
  have e : p.l = q.l := by rw [← p.tr, ← q.tr]; exact trimF_congr h
  cases p; cases q; simp only at e; subst e; rfl
theorem ext_iff' {p q : Pol} : p = q ↔ ∀ i, coef p.l i = coef q.l i := ⟨fun h _ => by rw [h], ext⟩
/-- .. of any list. -/
def mk' (l : List F) : Pol := ⟨trimF l, trimF_trimF l⟩
theorem coef_mk (l : List F) (i : Nat) : coef (mk' l).l i = coef l i := coef_trimF l i
def add (p q : Pol) : Pol := mk' (addL p.l q.l)
def mul (p q : Pol) : Pol := mk' (mulL p.l q.l)
def neg (p : Pol) : Pol := mk' (p.l.map (-1 * ·))
def con (a : F) : Pol := mk' [a]
def pow (p : Pol) : Nat → Pol
  | 0 => con 1
  | n + 1 => mul (pow p n) p
instance : Add Pol := ⟨add⟩
instance : Mul Pol := ⟨mul⟩
instance : Neg Pol := ⟨neg⟩
instance : Sub Pol := ⟨fun p q => add p (neg q)⟩
theorem coef_add (p q : Pol) (i : Nat) : coef (p + q).l i = coef p.l i + coef q.l i := by
  show coef (mk' (addL p.l q.l)).l i = _
  rw [coef_mk, coef_addL]
theorem coef_mul (p q : Pol) (i : Nat) : coef (p * q).l i = coef (mulL p.l q.l) i := by
  show coef (mk' (mulL p.l q.l)).l i = _
  rw [coef_mk]
theorem coef_neg (p : Pol) (i : Nat) : coef (-p).l i = - coef p.l i := by
  show coef (mk' _).l i = _
  rw [coef_mk, coef_smul]; grind
theorem coef_con (a : F) (i : Nat) : coef (con a).l i = if i = 0 then a else 0 := by
  unfold con
  rw [coef_mk]
  cases i with
  | zero => rw [coef_zero]; rfl
  | succ i => rw [coef_succ, coef_nil]; rfl
def ofN : Nat → Pol
  | 0 => con 0
  | 1 => con 1
  | n + 2 => ofN (n + 1) + con 1
theorem coef_ofN (n : Nat) (i : Nat) : coef (ofN n).l i = if i = 0 then (OfNat.ofNat n : F) else 0 := by
  induction n with
  | zero => exact coef_con 0 i
  | succ n ih =>
    cases n with
    | zero => exact coef_con 1 i
    | succ n =>
      show coef (ofN (n + 1) + con 1).l i = _
      rw [coef_add, ih, coef_con]
      split
      · exact (Lean.Grind.Semiring.ofNat_succ (α := F) (n + 1)).symm
      · exact add_zero' 0
instance (n : Nat) : OfNat Pol n := ⟨ofN n⟩
instance : NatCast Pol := ⟨ofN⟩
instance : HPow Pol Nat Pol := ⟨pow⟩
instance : SMul Nat Pol := ⟨fun n p => ofN n * p⟩
def ofZ (n : Int) : Pol := match n with
  | .ofNat n => ofN n
  | .negSucc n => -(ofN (n + 1))
instance : IntCast Pol := ⟨ofZ⟩
instance : SMul Int Pol := ⟨fun n p => ofZ n * p⟩
theorem zero_l : (0 : Pol).l = [] := by decide
theorem coef_nought (i : Nat) : coef (0 : Pol).l i = 0 := by rw [zero_l, coef_nil]
theorem one_l : (1 : Pol).l = [1] := by decide +kernel
theorem mul_comm' (p q : Pol) : p * q = q * p := ext fun i => by rw [coef_mul, coef_mul, mulL_comm]
theorem mulL_congr_left {p p' : List F} (q : List F) (h : ∀ i, coef p i = coef p' i) (i : Nat) : coef (mulL p q) i = coef (mulL p' q) i := mulL_congr h (fun _ => rfl) i
theorem mulL_congr_right (p : List F) {q q' : List F} (h : ∀ i, coef q i = coef q' i) (i : Nat) : coef (mulL p q) i = coef (mulL p q') i := mulL_congr (fun _ => rfl) h i
theorem mul_assoc' (p q r : Pol) : p * q * r = p * (q * r) := ext fun i => by
  rw [coef_mul, coef_mul, mulL_congr_left r.l (coef_mul p q), mulL_congr_right p.l (coef_mul q r), mulL_assoc]
theorem right_distrib' (p q r : Pol) : (p + q) * r = p * r + q * r := ext fun i => by
  rw [coef_mul, coef_add, coef_mul, coef_mul, mulL_congr_left r.l (p' := addL p.l q.l) (fun i => by rw [coef_add, coef_addL]), mulL_add_left]
theorem add_comm' (p q : Pol) : p + q = q + p := ext fun i => by rw [coef_add, coef_add]; grind
theorem pmul_one (p : Pol) : p * 1 = p := ext fun i => by rw [coef_mul, one_l, mulL_one]
theorem pzero_mul (p : Pol) : 0 * p = 0 := ext fun i => by rw [coef_mul, zero_l, mulL_nil_coef, coef_nil]
theorem ofN_succ (n : Nat) : ofN (n + 1) = ofN n + con 1 := by
  cases n with
  | zero =>
    refine ext fun i => ?_
    show coef (con 1).l i = _
    rw [coef_add]
    show _ = coef (con 0).l i + _
    rw [coef_con, coef_con]
    split
    · exact (zero_add' 1).symm
    · exact (add_zero' 0).symm
  | succ n => rfl
instance : Lean.Grind.CommRing Pol where
  add_zero p := ext fun i => by rw [coef_add, coef_nought, add_zero']
  add_comm := add_comm'
  add_assoc p q r := ext fun i => by rw [coef_add, coef_add, coef_add, coef_add]; grind
  mul_assoc := mul_assoc'
  mul_one := pmul_one
  one_mul p := by rw [mul_comm', pmul_one]
  left_distrib p q r := by rw [mul_comm', right_distrib', mul_comm' q, mul_comm' r]
  right_distrib := right_distrib'
  zero_mul := pzero_mul
  mul_zero p := by rw [mul_comm', pzero_mul]
  pow_zero p := rfl
  pow_succ p n := rfl
  ofNat_succ n := ofN_succ n
  ofNat_eq_natCast n := rfl
  nsmul_eq_natCast_mul n p := rfl
  neg_add_cancel p := ext fun i => by rw [coef_add, coef_neg, coef_nought]; grind
  sub_eq_add_neg p q := rfl
  neg_zsmul n p := by
    show ofZ (-n) * p = -(ofZ n * p)
    have e : ofZ (-n) = - ofZ n := by
      cases n with
      | ofNat n =>
        cases n with
        | zero => exact ext fun i => by rw [coef_neg]; show coef (ofN 0).l i = - coef (ofN 0).l i; rw [coef_ofN]; split <;> grind
        | succ n => rfl
      | negSucc n => exact ext fun i => by rw [coef_neg]; show coef (ofN (n + 1)).l i = - coef (-(ofN (n + 1))).l i; rw [coef_neg]; grind
    rw [e]
    exact ext fun i => by
      rw [coef_neg, coef_mul, coef_mul, mulL_congr_left p.l (p' := (ofZ n).l.map (-1 * ·)) (fun i => by rw [coef_neg, coef_smul]; grind), mulL_smul]; grind
  zsmul_natCast_eq_nsmul n p := rfl
  intCast_ofNat n := rfl
  intCast_neg n := by
    show ofZ (-n) = - ofZ n
    cases n with
    | ofNat n =>
      cases n with
      | zero => exact ext fun i => by rw [coef_neg]; show coef (ofN 0).l i = - coef (ofN 0).l i; rw [coef_ofN]; split <;> grind
      | succ n => rfl
    | negSucc n => exact ext fun i => by rw [coef_neg]; show coef (ofN (n + 1)).l i = - coef (-(ofN (n + 1))).l i; rw [coef_neg]; grind
  mul_comm := mul_comm'
example (p q r : Pol) (h : p = q * r + 1) : p * r - r = q * r * r := by grind
end Pol
end Go.Proofs.Ytelnhpcehmdffaa

namespace Go.Proofs.Ytelnhpcehmdffaa
namespace Pol

theorem sub_zero' (x : F) : x - 0 = x := by grind
/-! ### Lengths -/
def len (p : Pol) : Nat := p.l.length
/-- The first coefficient. -/
def top (p : Pol) : F := coef p.l (p.len - 1)
theorem len_zero : (0 : Pol).len = 0 := by unfold len; rw [zero_l]; rfl
theorem eq_zero_of_len {p : Pol} (h : p.len = 0) : p = 0 := by
  refine ext fun i => ?_
  rw [List.eq_nil_of_length_eq_zero h, coef_nought, coef_nil]
theorem len_pos {p : Pol} (h : p ≠ 0) : 0 < p.len := Nat.pos_of_ne_zero fun e => h (eq_zero_of_len e)
theorem trimF_last : ∀ {l : List F}, trimF l = l → l ≠ [] → coef l (l.length - 1) ≠ 0
  | [], _, h => absurd rfl h
  | a :: l, ht, _ => by
    rw [trimF] at ht
    by_cases h : trimF l = [] ∧ a = 0
    · rw [if_pos h] at ht; cases ht
    · rw [if_neg h] at ht
      injection ht with _ ht
      cases l with
      | nil =>
        show coef [a] 0 ≠ 0
        rw [coef_zero]
        exact fun e => h ⟨rfl, e⟩
      | cons b l =>
        have := trimF_last ht (by simp)
        simpa [coef] using this
theorem top_ne {p : Pol} (h : p ≠ 0) : p.top ≠ 0 := trimF_last p.tr fun e => h (eq_zero_of_len (by unfold len; rw [e]; rfl))
theorem coef_high {p : Pol} {i : Nat} (h : p.len ≤ i) : coef p.l i = 0 := coef_ge h
theorem len_le {p : Pol} {n : Nat} (h : ∀ i, n ≤ i → coef p.l i = 0) : p.len ≤ n := by
  rcases Nat.lt_or_ge n p.len with hlt | hge
  · have hp : p ≠ 0 := fun e => by rw [e, len_zero] at hlt; omega
    exact absurd (h (p.len - 1) (by omega)) (top_ne hp)
  · exact hge
theorem len_ge {p : Pol} {i : Nat} (h : coef p.l i ≠ 0) : i < p.len := Nat.lt_of_not_le fun hle => h (coef_high hle)
theorem len_add (p q : Pol) : (p + q).len ≤ max p.len q.len := len_le fun i hi => by
  rw [coef_add, coef_high (by omega), coef_high (by omega), add_zero']
theorem len_neg (p : Pol) : (-p).len = p.len := by
  have h : ∀ q : Pol, (-q).len ≤ q.len := fun q => len_le fun i hi => by rw [coef_neg, coef_high hi]; grind
  have h1 := h p
  have h2 := h (-p)
  rw [show - -p = p by grind] at h2
  omega
theorem len_sub (p q : Pol) : (p - q).len ≤ max p.len q.len := by
  rw [show p - q = p + -q by grind]
  have := len_add p (-q)
  rwa [len_neg] at this
/-- The first coefficient of a product. -/
theorem coef_top_mul (p q : Pol) (hp : p ≠ 0) (hq : q ≠ 0) : coef (p * q).l (p.len + q.len - 2) = p.top * q.top := by
  have hp' := len_pos hp
  have hq' := len_pos hq
  rw [coef_mul, coef_mulL_sum]
  have e : ∀ i, i < p.len + q.len - 2 + 1 → (coef p.l i * coef q.l (p.len + q.len - 2 - i)) = if i = p.len - 1 then p.top * q.top else 0 := by
    intro i hi
    split
    · rename_i h
      subst h
      rw [show p.len + q.len - 2 - (p.len - 1) = q.len - 1 by omega]; rfl
    · rename_i h
      rcases Nat.lt_or_ge i (p.len - 1) with h1 | h1
      · rw [coef_high (p := q) (by omega), mul_zero']
      · rw [coef_high (p := p) (by omega), zero_mul']
  rw [sumF_congr _ e]
  have s : ∀ (c : F) (n k : Nat), sumF (fun i => if i = k then c else 0) n = if k < n then c else 0 := by
    intro c n
    induction n with
    | zero => intro k; rw [sumF, if_neg (by omega)]
    | succ n ih =>
      intro k
      rw [sumF, ih]
      by_cases h1 : n = k
      · rw [if_neg (by omega), if_pos h1, if_pos (by omega), zero_add']
      · rw [if_neg h1, add_zero']
        by_cases h2 : k < n
        · rw [if_pos h2, if_pos (by omega)]
        · rw [if_neg h2, if_neg (by omega)]
  rw [s, if_pos (by omega)]
theorem mul_ne_zero {p q : Pol} (hp : p ≠ 0) (hq : q ≠ 0) : p * q ≠ 0 := by
  intro e
  have := coef_top_mul p q hp hq
  rw [e, coef_nought] at this
  exact mul_ne _ _ (top_ne hp) (top_ne hq) this.symm
theorem len_mul {p q : Pol} (hp : p ≠ 0) (hq : q ≠ 0) : (p * q).len = p.len + q.len - 1 := by
  have hp' := len_pos hp
  have hq' := len_pos hq
  apply Nat.le_antisymm
  · refine len_le fun i hi => ?_
    rw [coef_mul, coef_mulL_sum]
    rw [sumF_congr (g := fun _ => 0) _ fun j hj => ?_]
    · exact sumF_zero _ (fun _ => rfl) _
    · rcases Nat.lt_or_ge j p.len with h1 | h1
      · rw [coef_high (p := q) (by omega), mul_zero']
      · rw [coef_high (p := p) (by omega), zero_mul']
  · have h : coef (p * q).l (p.len + q.len - 2) ≠ 0 := by
      rw [coef_top_mul p q hp hq]; exact mul_ne _ _ (top_ne hp) (top_ne hq)
    have := len_ge h
    omega
theorem top_mul {p q : Pol} (hp : p ≠ 0) (hq : q ≠ 0) : (p * q).top = p.top * q.top := by
  have hp' := len_pos hp
  have hq' := len_pos hq
  unfold top
  rw [len_mul hp hq, show p.len + q.len - 1 - 1 = p.len + q.len - 2 by omega]
  exact coef_top_mul p q hp hq
theorem mul_cancel {p q r : Pol} (hr : r ≠ 0) (h : p * r = q * r) : p = q := by
  by_cases e : p - q = 0
  · grind
  · exact absurd (show (p - q) * r = 0 by grind) (mul_ne_zero e hr)

/-! ### Division -/
/-- A quotient, and what is left. -/
structure DivOk (a b q r : Pol) : Prop where
  eq : a = q * b + r
  less : r.len < b.len
theorem DivOk.same {a b q r q' r' : Pol} (h : DivOk a b q r) (k : DivOk a b q' r') : q = q' ∧ r = r' := by
  have hb : b ≠ 0 := fun e => by have := h.less; rw [e, len_zero] at this; omega
  have e1 := h.eq
  have e2 := k.eq
  by_cases e : q - q' = 0
  · exact ⟨by grind, by grind⟩
  · have h1 : (q - q') * b = r' - r := by grind
    have h2 := len_mul e hb
    have h3 := len_sub r' r
    have := len_pos e
    have := h.less
    have := k.less
    rw [h1] at h2
    omega
/-- What divides. -/
def Dvd (d a : Pol) : Prop := ∃ w : Pol, a = w * d
theorem Dvd.refl (a : Pol) : Dvd a a := ⟨1, by grind⟩
theorem Dvd.zero (a : Pol) : Dvd a 0 := ⟨0, by grind⟩
theorem Dvd.trans {a b c : Pol} (h : Dvd a b) (k : Dvd b c) : Dvd a c := by
  obtain ⟨u, rfl⟩ := h
  obtain ⟨v, rfl⟩ := k
  exact ⟨v * u, by grind⟩
theorem Dvd.add {d a b : Pol} (h : Dvd d a) (k : Dvd d b) : Dvd d (a + b) := by
  obtain ⟨u, rfl⟩ := h
  obtain ⟨v, rfl⟩ := k
  exact ⟨u + v, by grind⟩
theorem Dvd.sub {d a b : Pol} (h : Dvd d a) (k : Dvd d b) : Dvd d (a - b) := by
  obtain ⟨u, rfl⟩ := h
  obtain ⟨v, rfl⟩ := k
  exact ⟨u - v, by grind⟩
theorem Dvd.mul {d a : Pol} (h : Dvd d a) (b : Pol) : Dvd d (b * a) := by
  obtain ⟨u, rfl⟩ := h
  exact ⟨b * u, by grind⟩
theorem Dvd.len {d a : Pol} (h : Dvd d a) (ha : a ≠ 0) : d.len ≤ a.len := by
  obtain ⟨u, rfl⟩ := h
  have hu : u ≠ 0 := fun e => ha (by rw [e]; grind)
  have hd : d ≠ 0 := fun e => ha (by rw [e]; grind)
  rw [len_mul hu hd]
  have := len_pos hu
  omega
theorem DivOk.dvd {a b q r : Pol} (h : DivOk a b q r) (hd : Dvd b a) : r = 0 := by
  obtain ⟨u, hu⟩ := hd
  exact (h.same ⟨by rw [hu]; grind, by rw [len_zero]; have := h.less; omega⟩ : q = u ∧ r = 0).2

/-! ### The greatest common divisor -/
/-- What divides both, and what divides both divides it; 1 ahead, or nothing. -/
structure GcdOk (a b g : Pol) : Prop where
  left : Dvd g a
  right : Dvd g b
  best : ∀ d, Dvd d a → Dvd d b → Dvd d g
  monic : g ≠ 0 → g.top = 1
theorem GcdOk.same {a b g g' : Pol} (h : GcdOk a b g) (k : GcdOk a b g') : g = g' := by
  obtain ⟨u, hu⟩ := k.best g h.left h.right
  obtain ⟨v, hv⟩ := h.best g' k.left k.right
  by_cases hg : g = 0
  · rw [hu, hg]; grind
  · have hg' : g' ≠ 0 := fun e => hg (by rw [hv, e]; grind)
    have hu0 : u ≠ 0 := fun e => hg' (by rw [hu, e]; grind)
    have hl := len_mul hu0 hg
    have hl2 : g.len ≤ g'.len := Dvd.len ⟨u, hu⟩ hg'
    have hl3 : g'.len ≤ g.len := Dvd.len ⟨v, hv⟩ hg
    have hup := len_pos hu0
    have hgp := len_pos hg
    rw [← hu] at hl
    have hu1 : u.len = 1 := by omega
    have ht := top_mul hu0 hg
    rw [← hu, k.monic hg', h.monic hg, mul_one'] at ht
    have : u = 1 := by
      refine ext fun i => ?_
      rw [one_l]
      cases i with
      | zero => rw [coef_zero, ht]; unfold top; rw [hu1]
      | succ i => rw [coef_high (by omega), coef_succ, coef_nil]
    rw [hu, this]; grind
/-- One step of Euclid's. -/
theorem gcd_step {a b q r g : Pol} (h : DivOk a b q r) : GcdOk b r g ↔ GcdOk a b g := by
  have e := h.eq
  constructor
  · intro k
    refine ⟨by rw [e]; exact (k.left.mul q).add k.right, k.left, fun d h1 h2 => k.best d h2 ?_, k.monic⟩
    have : r = a - q * b := by grind
    rw [this]; exact h1.sub (h2.mul q)
  · intro k
    refine ⟨k.right, ?_, fun d h1 h2 => k.best d (by rw [e]; exact (h1.mul q).add h2) h1, k.monic⟩
    have : r = a - q * b := by grind
    rw [this]; exact k.left.sub (k.right.mul q)
/-- A polynomial times a number. -/
def scale (p : Pol) (c : F) : Pol := con c * p
theorem coef_scale (p : Pol) (c : F) (i : Nat) : coef (scale p c).l i = c * coef p.l i := by
  unfold scale
  rw [coef_mul, mulL_congr_left p.l (p' := [c]) (fun i => by unfold con; rw [coef_mk]), coef_mulL_cons]
  cases i with
  | zero => rw [coef_zero, add_zero']
  | succ i => rw [coef_succ, mulL_nil_coef, add_zero']
/-- .. with 1 ahead; nothing of nothing. -/
def monic (p : Pol) : Pol := scale p (inv p.top)
theorem con_mul (a b : F) : con a * con b = con (a * b) := ext fun i => by
  have := coef_scale (con b) a i
  unfold scale at this
  rw [this, coef_con, coef_con]; split
  · rfl
  · exact mul_zero' a
theorem con_one : con 1 = (1 : Pol) := rfl
theorem monic_zero : monic 0 = 0 := by unfold monic scale; grind
theorem scale_back {p : Pol} {c : F} (hc : c ≠ 0) : p = con (inv c) * scale p c := by
  unfold scale
  rw [← mul_assoc', con_mul, show inv c * c = 1 by rw [← mul_inv c hc]; grind, con_one]; grind
theorem gcd_end {a : Pol} : GcdOk a 0 (monic a) := by
  by_cases ha : a = 0
  · rw [ha, monic_zero]
    exact ⟨.refl _, .refl _, fun d h _ => h, fun h => absurd rfl h⟩
  · have ht := top_ne ha
    have hi := inv_ne _ ht
    refine ⟨⟨con (inv (inv a.top)), scale_back hi⟩, .zero _, fun d h _ => h.mul _, fun hm => ?_⟩
    have hl : (monic a).len = a.len := by
      apply Nat.le_antisymm
      · exact len_le fun i h => by unfold monic; rw [coef_scale, coef_high h, mul_zero']
      · have : coef (monic a).l (a.len - 1) ≠ 0 := by unfold monic; rw [coef_scale]; exact mul_ne _ _ hi ht
        have := len_ge this
        have := len_pos ha
        omega
    show coef (monic a).l ((monic a).len - 1) = 1
    rw [hl]
    unfold monic
    rw [coef_scale]
    show inv a.top * a.top = 1
    rw [← mul_inv _ ht]; grind

/-! ### Values and roots -/
def at' (p : Pol) (x : F) : F := ev p.l x
theorem ev_congr {p q : List F} (h : ∀ i, coef p i = coef q i) (x : F) : ev p x = ev q x := by
  rw [← ev_trimF p, trimF_congr h, ev_trimF]
theorem at_add (p q : Pol) (x : F) : (p + q).at' x = p.at' x + q.at' x := by
  unfold at'
  rw [← ev_addL]; exact ev_congr (fun i => by rw [coef_add, coef_addL]) x
theorem at_mul (p q : Pol) (x : F) : (p * q).at' x = p.at' x * q.at' x := by
  unfold at'
  rw [← ev_mulL]; exact ev_congr (coef_mul p q) x
theorem at_con (c : F) (x : F) : (con c).at' x = c := by
  unfold at'
  rw [ev_congr (q := [c]) (fun i => by unfold con; rw [coef_mk]), ev, ev, mul_zero', add_zero']
theorem at_neg (p : Pol) (x : F) : (-p).at' x = -p.at' x := by
  unfold at'
  rw [ev_congr (q := p.l.map (-1 * ·)) (fun i => by rw [coef_neg, coef_smul]; grind), ev_smul]; grind
theorem at_sub (p q : Pol) (x : F) : (p - q).at' x = p.at' x - q.at' x := by
  rw [show p - q = p + -q by grind, at_add, at_neg]; grind
theorem at_zero (x : F) : (0 : Pol).at' x = 0 := by unfold at'; rw [zero_l, ev]
/-- x less a number. -/
def lin (r : F) : Pol := mk' [-r, 1]
theorem at_lin (r x : F) : (lin r).at' x = x - r := by
  unfold at' lin
  rw [ev_congr (coef_mk _), ev, ev, ev, mul_zero', add_zero', mul_one']; grind
theorem coef_lin (r : F) (i : Nat) : coef (lin r).l i = coef [-r, 1] i := coef_mk _ i
theorem lin_l (r : F) : (lin r).l = [-r, 1] := by
  show trimF [-r, 1] = _
  exact trimF_snoc [-r] 1 one_ne
theorem lin_ne (r : F) : lin r ≠ 0 := fun e => by
  have := coef_lin r 1
  rw [e, coef_nought, coef_succ, coef_zero] at this
  exact one_ne this.symm
theorem len_lin (r : F) : (lin r).len = 2 := by unfold len; rw [lin_l]; rfl
/-- x. -/
def X : Pol := mk' [0, 1]
theorem lin_eq (r : F) : lin r = X - con r := ext fun i => by
  rw [show X - con r = X + -con r by grind, coef_add, coef_neg, coef_lin, coef_con]
  unfold X
  rw [coef_mk]
  cases i with
  | zero => rw [coef_zero, coef_zero, if_pos rfl, zero_add']
  | succ i => rw [coef_succ, coef_succ, if_neg (by omega)]; grind
theorem con_add (a b : F) : con a + con b = con (a + b) := ext fun i => by
  rw [coef_add, coef_con, coef_con, coef_con]; split
  · rfl
  · exact add_zero' 0
theorem mk_cons (a : F) (p : List F) : mk' (a :: p) = con a + X * mk' p := ext fun i => by
  rw [coef_mk, coef_add, coef_con, coef_mul]
  unfold X
  rw [mulL_congr (coef_mk [0, 1]) (coef_mk p), coef_mulL_cons]
  cases i with
  | zero => rw [coef_zero, coef_zero, if_pos rfl]; grind
  | succ i =>
    rw [coef_succ, coef_succ, if_neg (by omega), mulL_comm, mulL_one]; grind
theorem mk_l (p : Pol) : mk' p.l = p := ext fun i => coef_mk _ i
theorem mk_nil : mk' [] = 0 := ext fun i => by rw [coef_mk, coef_nil, coef_nought]
theorem con_zero : con 0 = (0 : Pol) := rfl
theorem div_lin (r : F) : ∀ p : List F, ∃ w : Pol, mk' p = w * lin r + con (ev p r)
  | [] => ⟨0, by rw [mk_nil, ev, con_zero]; grind⟩
  | a :: p => by
    obtain ⟨w, hw⟩ := div_lin r p
    refine ⟨X * w + con (ev p r), ?_⟩
    have e := lin_eq r
    rw [mk_cons, hw, ev, ← con_add, ← con_mul]
    grind
/-- A root is split off. -/
theorem root_dvd (p : Pol) (r : F) : p.at' r = 0 ↔ Dvd (lin r) p := by
  constructor
  · intro h
    obtain ⟨w, hw⟩ := div_lin r p.l
    unfold at' at h
    rw [mk_l, h, con_zero] at hw
    exact ⟨w, by rw [hw]; grind⟩
  · rintro ⟨w, rfl⟩
    rw [at_mul, at_lin]; grind
theorem roots_lt {p : Pol} (hp : p ≠ 0) {L : List F} (hd : L.Nodup) (h : ∀ x ∈ L, p.at' x = 0) : L.length < p.len := by
  rcases Nat.lt_or_ge L.length p.len with h1 | h1
  · exact h1
  · have := zero_coef p.len p.l L (Nat.le_refl _) hd h1 h
    rw [p.tr] at this
    exact absurd (eq_zero_of_len (by unfold len; rw [this]; rfl)) hp

/-! ### Polynomials made of roots -/
def prodL : List F → Pol
  | [] => 1
  | r :: L => lin r * prodL L
theorem one_ne_zero : (1 : Pol) ≠ 0 := fun e => by
  have : coef (1 : Pol).l 0 = coef (0 : Pol).l 0 := by rw [e]
  rw [one_l, coef_zero, coef_nought] at this
  exact one_ne this
theorem prodL_ne : ∀ L : List F, prodL L ≠ 0
  | [] => one_ne_zero
  | r :: L => mul_ne_zero (lin_ne r) (prodL_ne L)
theorem len_one : (1 : Pol).len = 1 := by unfold len; rw [one_l]; rfl
theorem len_prodL : ∀ L : List F, (prodL L).len = L.length + 1
  | [] => len_one
  | r :: L => by rw [prodL, len_mul (lin_ne r) (prodL_ne L), len_lin, len_prodL L, List.length_cons]; omega
theorem at_one (x : F) : (1 : Pol).at' x = 1 := at_con 1 x
theorem at_prodL (x : F) : ∀ L : List F, (prodL L).at' x = 0 ↔ x ∈ L
  | [] => by
    rw [prodL, at_one]
    exact ⟨fun h => absurd h one_ne, fun h => by cases h⟩
  | r :: L => by
    rw [prodL, at_mul, at_lin, mul_eq_zero', at_prodL x L, List.mem_cons]
    constructor
    · rintro (h | h)
      · exact .inl (by grind)
      · exact .inr h
    · rintro (h | h)
      · exact .inl (by rw [h]; grind)
      · exact .inr h
theorem top_lin (r : F) : (lin r).top = 1 := by
  unfold top
  rw [len_lin, coef_lin]; rfl
theorem top_prodL : ∀ L : List F, (prodL L).top = 1
  | [] => by unfold top; rw [prodL, len_one, one_l]; rfl
  | r :: L => by rw [prodL, top_mul (lin_ne r) (prodL_ne L), top_lin, top_prodL L, mul_one']
/-- With as many roots as its degree it is made of them. -/
theorem full_eq : ∀ (L : List F) (p : Pol), p ≠ 0 → p.top = 1 → L.Nodup → (∀ x ∈ L, p.at' x = 0) → p.len = L.length + 1 → p = prodL L
  | [], p, _, ht, _, _, hl => by
    refine ext fun i => ?_
    rw [prodL, one_l]
    cases i with
    | zero => rw [coef_zero]; unfold top at ht; rw [hl] at ht; exact ht
    | succ i => rw [coef_high (by rw [hl]; simp), coef_succ, coef_nil]
  | r :: L, p, hp, ht, hd, hr, hl => by
    obtain ⟨w, rfl⟩ := (root_dvd p r).1 (hr r (List.mem_cons_self ..))
    obtain ⟨h1, h2⟩ := List.nodup_cons.1 hd
    have hw : w ≠ 0 := fun e => hp (by rw [e]; grind)
    rw [top_mul hw (lin_ne r), top_lin, mul_one'] at ht
    rw [len_mul hw (lin_ne r), len_lin, List.length_cons] at hl
    have := full_eq L w hw ht h2 (fun x hx => by
      have := hr x (List.mem_cons_of_mem _ hx)
      rw [at_mul, at_lin, mul_eq_zero'] at this
      rcases this with h | h
      · exact h
      · exact absurd (show x = r by grind) (fun e => h1 (e ▸ hx))) (by omega)
    rw [prodL, ← this]; grind

/-! ### x to the power P, less x -/
theorem at_X (x : F) : X.at' x = x := by
  unfold at' X
  rw [ev_congr (coef_mk _), ev, ev, ev, mul_zero', add_zero', mul_one', zero_add']
theorem pow_zero'' (p : Pol) : p ^ 0 = 1 := rfl
theorem pow_succ'' (p : Pol) (n : Nat) : p ^ (n + 1) = p ^ n * p := rfl
theorem at_pow (p : Pol) (n : Nat) (x : F) : (p ^ n).at' x = p.at' x ^ n := by
  induction n with
  | zero => rw [pow_zero'', at_one, pow_zero']
  | succ n ih => rw [pow_succ'', at_mul, ih]; grind
theorem coef_X_mul (p : Pol) (i : Nat) : coef (p * X).l i = coef (0 :: p.l) i := by
  rw [coef_mul]
  unfold X
  rw [mulL_congr_right p.l (coef_mk _), mulL_cons_right]
  cases i with
  | zero => rw [coef_zero, coef_zero, zero_mul', add_zero']
  | succ i => rw [coef_succ, coef_succ, mulL_one, zero_mul', zero_add']
theorem coef_X_pow (n i : Nat) : coef (X ^ n).l i = if i = n then 1 else 0 := by
  induction n generalizing i with
  | zero =>
    rw [pow_zero'', one_l]
    cases i with
    | zero => rfl
    | succ i => rw [coef_succ, coef_nil, if_neg (by omega)]
  | succ n ih =>
    rw [pow_succ'', coef_X_mul]
    cases i with
    | zero => rw [coef_zero, if_neg (by omega)]
    | succ i =>
      rw [coef_succ, ih]
      by_cases h : i = n
      · rw [if_pos h, if_pos (by omega)]
      · rw [if_neg h, if_neg (by omega)]
theorem coef_X (i : Nat) : coef X.l i = if i = 1 then 1 else 0 := by
  have := coef_X_pow 1 i
  rwa [show X ^ 1 = X by rw [show (1 : Nat) = 0 + 1 from rfl, pow_succ'', pow_zero'']; grind] at this
theorem coef_xnx (n : Nat) (i : Nat) : coef (X ^ n - X).l i = (if i = n then 1 else 0) - (if i = 1 then 1 else 0) := by
  rw [show X ^ n - X = X ^ n + -X by grind, coef_add, coef_neg, coef_X_pow, coef_X]; grind
theorem len_xnx {n : Nat} (h : 2 ≤ n) : (X ^ n - X).len = n + 1 := by
  apply Nat.le_antisymm
  · refine len_le fun i hi => ?_
    rw [coef_xnx, if_neg (by omega), if_neg (by omega)]; exact sub_zero' 0
  · have : coef (X ^ n - X).l n ≠ 0 := by
      rw [coef_xnx, if_pos rfl, if_neg (by omega), sub_zero']
      exact one_ne
    exact len_ge this
theorem fermat_n (x : F) (n : Nat) (hn : n = M + 1) : x ^ n = x := by
  subst hn
  by_cases h : x = 0
  · rw [h]; exact zero_pow' _ (by omega)
  · rw [pow_add', fermat x h, pow_one', one_mul']
theorem fermat' (x : F) : x ^ Q = x := fermat_n x Q (by unfold Q M; decide)
theorem filter_split {α : Type} (l : List α) (p : α → Bool) : (l.filter p).length + (l.filter fun x => !p x).length = l.length := by
  induction l with
  | nil => rfl
  | cons a l ih =>
    cases h : p a <;> simp [h] <;> omega
theorem at_xqx (x : F) : (X ^ Q - X).at' x = 0 := by
  rw [at_sub, at_pow, at_X, fermat']; grind
/-- What divides x^P less x has all its roots, each once. -/
theorem full_of_dvd {g : Pol} (h : Dvd g (X ^ Q - X)) : ∃ L : List F, L.Nodup ∧ (∀ x, x ∈ L ↔ g.at' x = 0) ∧ g.len = L.length + 1 := by
  obtain ⟨w, hw⟩ := h
  have hq : 2 ≤ Q := by unfold Q; decide
  have hl := len_xnx hq
  have hx : X ^ Q - X ≠ 0 := fun e => by rw [e, len_zero] at hl; omega
  have hg : g ≠ 0 := fun e => hx (by rw [hw, e]; grind)
  have hw0 : w ≠ 0 := fun e => hx (by rw [hw, e]; grind)
  have hm := len_mul hw0 hg
  rw [← hw, hl] at hm
  have hgp := len_pos hg
  have hwp := len_pos hw0
  obtain ⟨f, hf⟩ : ∃ f : F → Bool, ∀ x, f x = true ↔ g.at' x = 0 := ⟨fun x => g.at' x == 0, fun x => by rw [beq_iff_eq]⟩
  have h1 : ((List.finRange Q).filter f).Nodup := all_nodup.filter _
  have h2 : ((List.finRange Q).filter fun x => !f x).Nodup := all_nodup.filter _
  have h3 := roots_lt hg h1 fun x hx => (hf x).1 (List.mem_filter.1 hx).2
  have h4 := roots_lt hw0 h2 fun x hx => by
    have e1 := (List.mem_filter.1 hx).2
    have e2 := at_xqx x
    rw [hw, at_mul, mul_eq_zero'] at e2
    rcases e2 with e2 | e2
    · exact e2
    · rw [(hf x).2 e2] at e1; cases e1
  have h5 := filter_split (α := F) (List.finRange Q) f
  have h6 : ∀ a b : Nat, a + b = Q → a < g.len → b < w.len → g.len = a + 1 := fun a b _ _ _ => by omega
  refine ⟨_, h1, fun x => ?_, h6 _ _ (h5.trans List.length_finRange) h3 h4⟩
  rw [List.mem_filter, hf]
  exact ⟨fun h => h.2, fun h => ⟨List.mem_finRange x, h⟩⟩
end Pol
end Go.Proofs.Ytelnhpcehmdffaa

namespace Go.Proofs.Ytelnhpcehmdffaa
namespace Pol

/-- The polynomial of an array. -/
def pf (n : Nat) (f : Nat → F) : Pol := mk' ((List.range n).map f)
theorem coef_pf (n : Nat) (f : Nat → F) (i : Nat) : coef (pf n f).l i = if i < n then f i else 0 := by
  unfold pf; rw [coef_mk, coef_range]
theorem pf_l (n : Nat) (f : Nat → F) : (pf n f).l = trimF ((List.range n).map f) := rfl
theorem pf_cut {n k : Nat} {f : Nat → F} (hk : k ≤ n) (h : ∀ i, k ≤ i → i < n → f i = 0) : pf n f = pf k f := ext fun i => by
  rw [coef_pf, coef_pf]
  by_cases h1 : i < k
  · rw [if_pos h1, if_pos (by omega)]
  · rw [if_neg h1]
    by_cases h2 : i < n
    · rw [if_pos h2, h i (by omega) h2]
    · rw [if_neg h2]
theorem coef_X_pow_mul (p : Pol) (k i : Nat) : coef (p * X ^ k).l i = if k ≤ i then coef p.l (i - k) else 0 := by
  induction k generalizing i with
  | zero => rw [pow_zero'', pmul_one, if_pos (Nat.zero_le _)]; rfl
  | succ k ih =>
    rw [pow_succ'', ← mul_assoc', coef_X_mul]
    cases i with
    | zero => rw [coef_zero, if_neg (by omega)]
    | succ i =>
      rw [coef_succ, ih]
      by_cases h : k ≤ i
      · rw [if_pos h, if_pos (by omega), show i + 1 - (k + 1) = i - k by omega]
      · rw [if_neg h, if_neg (by omega)]
/-- The array of quotients with one more. -/
def upd (f : Nat → F) (k : Nat) (c : F) : Nat → F := fun j => if j = k then c else f j
theorem pf_upd {n k : Nat} {f : Nat → F} {c : F} (hk : k < n) (h0 : f k = 0) : pf n (upd f k c) = pf n f + con c * X ^ k := ext fun i => by
  rw [coef_add, coef_pf, coef_pf, coef_X_pow_mul, coef_con]
  unfold upd
  by_cases hin : i < n
  · rw [if_pos hin, if_pos hin]
    by_cases h1 : i = k
    · subst h1
      rw [if_pos rfl, h0, if_pos (Nat.le_refl _), if_pos (by omega), zero_add']
    · rw [if_neg h1]
      by_cases h2 : k ≤ i
      · rw [if_pos h2, if_neg (by omega), add_zero']
      · rw [if_neg h2, add_zero']
  · rw [if_neg hin, if_neg hin, if_pos (by omega), if_neg (by omega), add_zero']
/-- What is left, of t places taken. -/
def subAt (fa fb : Nat → F) (c : F) (k t : Nat) : Nat → F := fun i => if k ≤ i ∧ i < k + t then fa i - c * fb (i - k) else fa i
theorem subAt_zero (fa fb : Nat → F) (c : F) (k : Nat) : subAt fa fb c k 0 = fa := by
  funext i; unfold subAt; rw [if_neg (by omega)]
theorem subAt_succ (fa fb : Nat → F) (c : F) (k t : Nat) (j : Nat) : subAt fa fb c k (t + 1) j = if j = k + t then subAt fa fb c k t (k + t) - c * fb t else subAt fa fb c k t j := by
  unfold subAt
  by_cases h : j = k + t
  · subst h
    rw [if_pos rfl, if_pos (by omega), if_neg (by omega), show k + t - k = t by omega]
  · rw [if_neg h]
    by_cases h1 : k ≤ j ∧ j < k + t
    · rw [if_pos h1, if_pos (by omega)]
    · rw [if_neg h1, if_neg (by omega)]
theorem pf_sub {n k nb : Nat} {fa fb : Nat → F} {c : F} {B : Pol} (hn : k + nb ≤ n) (hB : ∀ i, coef B.l i = if i < nb then fb i else 0) : pf n fa = pf n (subAt fa fb c k nb) + con c * X ^ k * B := ext fun i => by
  have e : con c * X ^ k * B = scale B c * X ^ k := by unfold scale; grind
  rw [e, coef_add, coef_pf, coef_pf, coef_X_pow_mul]
  unfold subAt
  by_cases hin : i < n
  · rw [if_pos hin, if_pos hin]
    by_cases h1 : k ≤ i
    · rw [if_pos h1, coef_scale, hB]
      by_cases h2 : i < k + nb
      · rw [if_pos ⟨h1, h2⟩, if_pos (by omega)]; grind
      · rw [if_neg (fun h => h2 h.2), if_neg (by omega), mul_zero', add_zero']
    · rw [if_neg h1, if_neg (fun h => h1 h.1), add_zero']
  · rw [if_neg hin, if_neg hin, if_pos (by omega), coef_scale, hB, if_neg (by omega), mul_zero', add_zero']
/-- The state of long division: j places are left. -/
structure DivSt (A B : Pol) (n nb nq : Nat) (j : Nat) (fq fa : Nat → F) : Prop where
  eq : A = pf nq fq * B + pf n fa
  low : ∀ i, i < j → fq i = 0
  high : ∀ i, j + nb ≤ i + 1 → i < n → fa i = 0
theorem DivSt.start {A B : Pol} {n na nb nq : Nat} {fa : Nat → F} (hA : ∀ i, coef A.l i = if i < n then fa i else 0) (hna : ∀ i, na ≤ i → i < n → fa i = 0) (hq : na + 1 = nq + nb) : DivSt A B n nb nq nq (fun _ => 0) fa where
  eq := by
    have h1 : pf nq (fun _ => 0) = 0 := ext fun i => by rw [coef_pf, coef_nought]; split <;> rfl
    have h2 : A = pf n fa := ext fun i => by rw [hA, coef_pf]
    rw [h1, ← h2]; grind
  low := fun _ _ => rfl
  high := fun i h1 h2 => hna i (by omega) h2
theorem DivSt.step {A B : Pol} {n nb nq k : Nat} {fq fa fb : Nat → F} {c : F} (h : DivSt A B n nb nq (k + 1) fq fa) (hB : ∀ i, coef B.l i = if i < nb then fb i else 0) (hk : k < nq) (hn : k + nb ≤ n) (hnb : 0 < nb) (hc : c * fb (nb - 1) = fa (k + nb - 1)) :
    DivSt A B n nb nq k (upd fq k c) (subAt fa fb c k nb) where
  eq := by
    have e1 := pf_upd (c := c) hk (h.low k (by omega))
    have e2 := pf_sub (fa := fa) (c := c) hn hB
    have e3 := h.eq
    rw [e1]
    rw [e2] at e3
    rw [e3]; grind
  low := fun i hi => by unfold upd; rw [if_neg (by omega)]; exact h.low i (by omega)
  high := fun i h1 h2 => by
    unfold subAt
    by_cases h3 : i < k + nb
    · rw [if_pos ⟨by omega, h3⟩]
      have : i = k + nb - 1 := by omega
      subst this
      rw [show k + nb - 1 - k = nb - 1 by omega, hc]; grind
    · rw [if_neg (fun h => h3 h.2)]; exact h.high i (by omega) h2
theorem DivSt.done {A B : Pol} {n nb nq : Nat} {fq fa : Nat → F} (h : DivSt A B n nb nq 0 fq fa) (hB : B.len = nb) (hnb : 0 < nb) : DivOk A B (pf nq fq) (pf n fa) where
  eq := h.eq
  less := by
    have : (pf n fa).len ≤ nb - 1 := len_le fun i hi => by
      rw [coef_pf]; split
      · exact h.high i (by omega) (by assumption)
      · rfl
    omega
/-- What DivMod answers. -/
def DivIs (A B Q R : Pol) : Prop := (B = 0 ∧ Q = 0 ∧ R = 0) ∨ (B ≠ 0 ∧ DivOk A B Q R)
theorem DivIs.same {A B Q R Q' R' : Pol} (h : DivIs A B Q R) (k : DivIs A B Q' R') : Q = Q' ∧ R = R' := by
  rcases h with ⟨h0, rfl, rfl⟩ | ⟨h0, h1⟩
  · rcases k with ⟨_, rfl, rfl⟩ | ⟨k0, _⟩
    · exact ⟨rfl, rfl⟩
    · exact absurd h0 k0
  · rcases k with ⟨k0, _⟩ | ⟨_, k1⟩
    · exact absurd k0 h0
    · exact h1.same k1
theorem DivOk.small {A B : Pol} (h : A.len < B.len) : DivOk A B 0 A := ⟨by grind, h⟩
end Pol
theorem trimF_prefix : ∀ l : List F, l.take (trimF l).length = trimF l
  | [] => rfl
  | a :: l => by
    rw [trimF]
    by_cases h : trimF l = [] ∧ a = 0
    · rw [if_pos h]; rfl
    · rw [if_neg h, List.length_cons, List.take_succ_cons, trimF_prefix l]
end Go.Proofs.Ytelnhpcehmdffaa

namespace Go.Proofs.Ytelnhpcehmdffaa
namespace Pol
/-- The same modulo M. -/
def Cong (M A B : Pol) : Prop := Dvd M (A - B)
theorem Cong.refl (M A : Pol) : Cong M A A := ⟨0, by grind⟩
theorem Cong.symm {M A B : Pol} (h : Cong M A B) : Cong M B A := by
  obtain ⟨u, hu⟩ := h
  exact ⟨-u, by grind⟩
theorem Cong.trans {M A B C : Pol} (h : Cong M A B) (k : Cong M B C) : Cong M A C := by
  obtain ⟨u, hu⟩ := h
  obtain ⟨v, hv⟩ := k
  exact ⟨u + v, by grind⟩
theorem Cong.mul {M A B C D : Pol} (h : Cong M A B) (k : Cong M C D) : Cong M (A * C) (B * D) := by
  obtain ⟨u, hu⟩ := h
  obtain ⟨v, hv⟩ := k
  refine ⟨u * C + B * v, ?_⟩
  have e : A * C - B * D = (A - B) * C + B * (C - D) := by grind
  rw [e, hu, hv]; grind
theorem Cong.sub {M A B C D : Pol} (h : Cong M A B) (k : Cong M C D) : Cong M (A - C) (B - D) := by
  obtain ⟨u, hu⟩ := h
  obtain ⟨v, hv⟩ := k
  exact ⟨u - v, by grind⟩
theorem Cong.pow {M A B : Pol} (h : Cong M A B) (n : Nat) : Cong M (A ^ n) (B ^ n) := by
  induction n with
  | zero => exact Cong.refl _ _
  | succ n ih => rw [pow_succ'', pow_succ'']; exact ih.mul h
theorem DivOk.cong {M A Q R : Pol} (h : DivOk A M Q R) : Cong M A R := ⟨Q, by have := h.eq; grind⟩
theorem pow_add'' (A : Pol) (m n : Nat) : A ^ (m + n) = A ^ m * A ^ n := by
  induction n with
  | zero => rw [pow_zero'', pmul_one]; rfl
  | succ n ih => rw [← Nat.add_assoc, pow_succ'', pow_succ'', ih, mul_assoc']
theorem pow_two_mul (A : Pol) (n : Nat) : A ^ (2 * n) = (A * A) ^ n := by
  induction n with
  | zero => rfl
  | succ n ih =>
    rw [show 2 * (n + 1) = 2 * n + 1 + 1 by omega, pow_succ'', pow_succ'', pow_succ'', ih, mul_assoc']
/-- The state of a power by squares. -/
def PowSt (M A : Pol) (n : Nat) (O P : Pol) (k : Nat) : Prop := Cong M (A ^ n) (O * P ^ k)
theorem PowSt.start (M A : Pol) (n : Nat) : PowSt M A n 1 A n := by
  unfold PowSt
  rw [show (1 : Pol) * A ^ n = A ^ n by grind]
  exact Cong.refl _ _
theorem PowSt.even {M A O P P' : Pol} {n k : Nat} (h : PowSt M A n O P k) (hk : k % 2 = 0) (hp : Cong M (P * P) P') : PowSt M A n O P' (k / 2) := by
  have e : P ^ k = (P * P) ^ (k / 2) := by rw [← pow_two_mul, show 2 * (k / 2) = k by omega]
  unfold PowSt at h ⊢
  rw [e] at h
  exact h.trans ((Cong.refl _ _).mul (hp.pow _))
theorem PowSt.odd {M A O O' P P' : Pol} {n k : Nat} (h : PowSt M A n O P k) (hk : k % 2 = 1) (ho : Cong M (O * P) O') (hp : Cong M (P * P) P') : PowSt M A n O' P' (k / 2) := by
  have e : O * P ^ k = O * P * (P * P) ^ (k / 2) := by
    rw [← pow_two_mul, show k = 2 * (k / 2) + 1 by omega, pow_succ'', show (2 * (k / 2) + 1) / 2 = k / 2 by omega]; grind
  unfold PowSt at h ⊢
  rw [e] at h
  exact h.trans (ho.mul (hp.pow _))
theorem PowSt.done {M A O P : Pol} {n : Nat} (h : PowSt M A n O P 0) : Cong M (A ^ n) O := by
  unfold PowSt at h
  rwa [pow_zero'', pmul_one] at h
theorem dvd_cong {M A B D : Pol} (h : Cong M A B) (hd : Dvd D M) : Dvd D A ↔ Dvd D B := by
  obtain ⟨u, hu⟩ := h
  have e1 : A = B + u * M := by grind
  have e2 : B = A - u * M := by grind
  exact ⟨fun k => by rw [e2]; exact k.sub (hd.mul u), fun k => by rw [e1]; exact k.add (hd.mul u)⟩
end Pol
end Go.Proofs.Ytelnhpcehmdffaa

namespace Go.Proofs.Ytelnhpcehmdffaa
namespace Pol

theorem dvd_lin_at {p : Pol} {r : F} (h : Dvd (lin r) p) : p.at' r = 0 := (root_dvd p r).2 h
theorem at_of_dvd {g p : Pol} (h : Dvd g p) {r : F} (hr : g.at' r = 0) : p.at' r = 0 := by
  obtain ⟨w, rfl⟩ := h
  rw [at_mul, hr, mul_zero']
/-- A root of both is a root of what divides both. -/
theorem gcd_root {a b g : Pol} (h : GcdOk a b g) (r : F) : g.at' r = 0 ↔ a.at' r = 0 ∧ b.at' r = 0 :=
  ⟨fun hr => ⟨at_of_dvd h.left hr, at_of_dvd h.right hr⟩, fun ⟨h1, h2⟩ => dvd_lin_at (h.best _ ((root_dvd a r).1 h1) ((root_dvd b r).1 h2))⟩
theorem cong_at {M A B : Pol} (h : Cong M A B) {r : F} (hr : M.at' r = 0) : A.at' r = B.at' r := by
  obtain ⟨w, hw⟩ := h
  have := congrArg (fun p => at' p r) hw
  simp only [at_sub, at_mul, hr, mul_zero'] at this
  grind
/-- What is split off, and what is left. -/
theorem split_off {L : List F} (hd : L.Nodup) {B G Q' R : Pol} (f : F → Bool) (hf : ∀ r ∈ L, f r = true ↔ B.at' r = 0) (hg : GcdOk (prodL L) B G) (hdv : DivOk (prodL L) G Q' R) :
    G = prodL (L.filter f) ∧ Q' = prodL (L.filter fun r => !f r) := by
  have hR : R = 0 := hdv.dvd hg.left
  have hA := prodL_ne L
  have e : prodL L = Q' * G := by have := hdv.eq; rw [hR] at this; rw [this]; grind
  have hG : G ≠ 0 := fun h => hA (by rw [e, h]; grind)
  have hQ : Q' ≠ 0 := fun h => hA (by rw [e, h]; grind)
  have hl := len_mul hQ hG
  rw [← e, len_prodL] at hl
  have ht := top_mul hQ hG
  rw [← e, top_prodL, hg.monic hG, mul_one'] at ht
  have hgp := len_pos hG
  have hqp := len_pos hQ
  have n1 : (L.filter f).Nodup := hd.filter _
  have n2 : (L.filter fun r => !f r).Nodup := hd.filter _
  have r1 : ∀ x ∈ L.filter f, G.at' x = 0 := fun x hx => by
    obtain ⟨h1, h2⟩ := List.mem_filter.1 hx
    exact (gcd_root hg x).2 ⟨(at_prodL x L).2 h1, (hf x h1).1 h2⟩
  have r2 : ∀ x ∈ L.filter (fun r => !f r), Q'.at' x = 0 := fun x hx => by
    obtain ⟨h1, h2⟩ := List.mem_filter.1 hx
    have h3 := (at_prodL x L).2 h1
    rw [e, at_mul, mul_eq_zero'] at h3
    rcases h3 with h3 | h3
    · exact h3
    · have := (hf x h1).2 ((gcd_root hg x).1 h3).2
      rw [this] at h2; cases h2
  have c1 := roots_lt hG n1 r1
  have c2 := roots_lt hQ n2 r2
  have c3 := filter_split L f
  exact ⟨full_eq _ G hG (hg.monic hG) n1 r1 (by omega), full_eq _ Q' hQ ht.symm n2 r2 (by omega)⟩

/-! ### Some shift parts two numbers -/
/-- Is a number a square, and not 0? (Euler's.) -/
def sq (x : F) : Bool := x ^ 1152921504606846975 == 1
theorem T_succ (n : Nat) : T ((n + 1 : Nat) : Int) = T (n : Int) + 1 := by rw [show ((n + 1 : Nat) : Int) = (n : Int) + 1 by omega, T_add, T_one]
theorem step_all (S : F → Bool) (d : F) (h : ∀ x, S (x + d) = S x) (x : F) : ∀ n : Nat, S (x + T (n : Int) * d) = S x := by
  intro n
  induction n with
  | zero => rw [show ((0 : Nat) : Int) = 0 from rfl, T_zero, zero_mul', add_zero']
  | succ n ih =>
    rw [T_succ, ← ih, ← h (x + T (n : Int) * d)]
    congr 1
    grind
theorem shift_const (S : F → Bool) (d : F) (hd : d ≠ 0) (h : ∀ x, S (x + d) = S x) (x y : F) : S x = S y := by
  have e : x = y + T ((((x - y) * inv d).val : Nat) : Int) * d := by
    have h1 : T ((((x - y) * inv d).val : Nat) : Int) = (x - y) * inv d := T_V _
    rw [h1]
    have := mul_inv d hd
    grind
  rw [e]
  exact step_all S d h y _
theorem sq_one : sq 1 = true := by
  unfold sq
  rw [one_pow', beq_iff_eq]
theorem sq_zero : sq 0 = false := by
  unfold sq
  rw [zero_pow' _ (by decide), beq_eq_false_iff_ne]
  exact fun e => one_ne e.symm
/-- Two unlike numbers are parted by some shift. -/
theorem parts {a b : F} (hab : a ≠ b) : ∃ s : F, sq (a + s) ≠ sq (b + s) := by
  apply Classical.byContradiction
  intro hn
  have h : ∀ s, sq (a + s) = sq (b + s) := fun s => Classical.byContradiction fun e => hn ⟨s, e⟩
  have hd : a - b ≠ 0 := sub_ne hab
  have := shift_const sq (a - b) hd (fun x => by
    have := h (x - b)
    rw [show a + (x - b) = x + (a - b) by grind, show b + (x - b) = x by grind] at this
    exact this) 1 0
  rw [sq_one, sq_zero] at this
  cases this
/-- What has all roots of a polynomial, each once. -/
theorem roots_gcd {A H G : Pol} (hc : Cong A (X ^ Q) H) (hg : GcdOk A (H - X) G) (hA : A ≠ 0) : ∃ L : List F, L.Nodup ∧ (∀ x, x ∈ L ↔ A.at' x = 0) ∧ G = prodL L := by
  have hG : G ≠ 0 := fun e => hA (by
    obtain ⟨w, hw⟩ := hg.left
    rw [hw, e]; grind)
  have hdv : Dvd G (X ^ Q - X) := by
    have h1 : X ^ Q - X = (X ^ Q - H) + (H - X) := by grind
    rw [h1]
    exact (hg.left.trans hc).add hg.right
  obtain ⟨L, h1, h2, h3⟩ := full_of_dvd hdv
  refine ⟨L, h1, fun x => ?_, full_eq L G hG (hg.monic hG) h1 (fun x hx => (h2 x).1 hx) h3⟩
  rw [h2, gcd_root hg]
  refine ⟨fun h => h.1, fun h => ⟨h, ?_⟩⟩
  have := cong_at hc h
  rw [at_pow, at_X, fermat'] at this
  rw [at_sub, at_X, ← this]; grind
/-- The values at the roots, of a power modulo the polynomial, less 1. -/
theorem power_at {A P H : Pol} {n : Nat} (hc : Cong A (P ^ n) H) {r : F} (hr : A.at' r = 0) : (H - 1).at' r = P.at' r ^ n - 1 := by
  rw [at_sub, at_one, ← cong_at hc hr, at_pow]
end Pol
end Go.Proofs.Ytelnhpcehmdffaa

namespace Go.Proofs.Ytelnhpcehmdffaa
namespace Pol

/-- The state of division by taking away what is first. -/
structure TakeSt (A B : Pol) (n nb : Nat) (fq : Nat → F) (L : Pol) : Prop where
  eq : A = pf n fq * B + L
  low : ∀ i, i + nb ≤ L.len → fq i = 0
theorem TakeSt.start (A B : Pol) (n nb : Nat) : TakeSt A B n nb (fun _ => 0) A where
  eq := by
    have h1 : pf n (fun _ => 0) = 0 := ext fun i => by rw [coef_pf, coef_nought]; split <;> rfl
    rw [h1]; grind
  low := fun _ _ => rfl
/-- What is left of a coefficient. -/
def lessAt (L B : Pol) (c : F) (k : Nat) (i : Nat) : F := if k ≤ i then coef L.l i - c * coef B.l (i - k) else coef L.l i
theorem less_eq {B L : Pol} {nb k : Nat} {c : F} (hB : B.len = nb) (hnb : 0 < nb) (hL : L.len = k + nb) (hc : c * B.top = L.top) : L = pf (k + nb - 1) (lessAt L B c k) + con c * X ^ k * B := ext fun i => by
  have e : con c * X ^ k * B = scale B c * X ^ k := by unfold scale; grind
  rw [e, coef_add, coef_pf, coef_X_pow_mul]
  unfold lessAt
  by_cases h1 : i < k + nb - 1
  · rw [if_pos h1]
    by_cases h2 : k ≤ i
    · rw [if_pos h2, if_pos h2, coef_scale]; grind
    · rw [if_neg h2, if_neg h2, add_zero']
  · rw [if_neg h1, if_pos (by omega), coef_scale]
    by_cases h2 : i = k + nb - 1
    · subst h2
      unfold top at hc
      rw [hB, hL] at hc
      rw [show k + nb - 1 - k = nb - 1 by omega, hc, zero_add']
    · rw [coef_high (show L.len ≤ i by omega), coef_high (show B.len ≤ i - k by omega), mul_zero', add_zero']
theorem pf_len (n : Nat) (f : Nat → F) : (pf n f).len ≤ n := len_le fun i hi => by rw [coef_pf, if_neg (by omega)]
theorem TakeSt.step {A B L : Pol} {n nb k : Nat} {fq : Nat → F} {c : F} (h : TakeSt A B n nb fq L) (hB : B.len = nb) (hnb : 0 < nb) (hL : L.len = k + nb) (hk : k < n) (hc : c * B.top = L.top) :
    TakeSt A B n nb (upd fq k c) (pf (k + nb - 1) (lessAt L B c k)) where
  eq := by
    have e1 := pf_upd (c := c) hk (h.low k (by omega))
    have e2 := less_eq hB hnb hL hc
    have e3 := h.eq
    rw [e1]
    generalize pf (k + nb - 1) (lessAt L B c k) = L' at *
    rw [e2] at e3
    rw [e3]; grind
  low := fun i hi => by
    have := pf_len (k + nb - 1) (lessAt L B c k)
    unfold upd
    rw [if_neg (by omega)]
    exact h.low i (by omega)
theorem TakeSt.done {A B L : Pol} {n nb : Nat} {fq : Nat → F} (h : TakeSt A B n nb fq L) (hB : B.len = nb) (hl : L.len < nb) : DivOk A B (pf n fq) L := ⟨h.eq, by rw [hB]; exact hl⟩
end Pol

/-! ### Numbers rising, each once -/
def Rise (l : List F) : Prop := l.Pairwise fun a b => V a < V b
theorem Rise.nil : Rise [] := List.Pairwise.nil
theorem Rise.same : ∀ {l m : List F}, Rise l → Rise m → (∀ x, x ∈ l ↔ x ∈ m) → l = m
  | [], [], _, _, _ => rfl
  | [], b :: m, _, _, h => absurd ((h b).2 (List.mem_cons_self ..)) (by simp)
  | a :: l, [], _, _, h => absurd ((h a).1 (List.mem_cons_self ..)) (by simp)
  | a :: l, b :: m, h1, h2, h => by
    obtain ⟨k1, k2⟩ := List.pairwise_cons.1 h1
    obtain ⟨k3, k4⟩ := List.pairwise_cons.1 h2
    have e : a = b := by
      rcases List.mem_cons.1 ((h a).1 (List.mem_cons_self ..)) with e | e
      · exact e
      · rcases List.mem_cons.1 ((h b).2 (List.mem_cons_self ..)) with e' | e'
        · exact e'.symm
        · have := k1 _ e'; have := k3 _ e; omega
    subst e
    rw [Rise.same k2 k4 fun x => ⟨fun hx => by
      rcases List.mem_cons.1 ((h x).1 (List.mem_cons_of_mem _ hx)) with e | e
      · subst e; have := k1 _ hx; omega
      · exact e, fun hx => by
      rcases List.mem_cons.1 ((h x).2 (List.mem_cons_of_mem _ hx)) with e | e
      · subst e; have := k3 _ hx; omega
      · exact e⟩]
/-- One more number among rising ones, ahead of all that are more. -/
theorem Rise.insert {l : List F} (h : Rise l) {k : Nat} {n : F} (hk : k ≤ l.length) (h1 : ∀ j, j < k → V (coef l j) < V n) (h2 : k < l.length → V n < V (coef l k)) :
    Rise (l.take k ++ n :: l.drop k) ∧ ∀ x, x ∈ l.take k ++ n :: l.drop k ↔ x = n ∨ x ∈ l := by
  have hs : l.take k ++ l.drop k = l := List.take_append_drop k l
  have hp : Rise (l.take k ++ l.drop k) := by rw [hs]; exact h
  obtain ⟨q1, q2, q3⟩ := List.pairwise_append.1 hp
  have a1 : ∀ x ∈ l.take k, V x < V n := fun x hx => by
    obtain ⟨j, hj, rfl⟩ := List.getElem_of_mem hx
    have hj' : j < k := by rw [List.length_take] at hj; omega
    have := h1 j hj'
    rw [coef_lt (by rw [List.length_take] at hj; omega)] at this
    rw [List.getElem_take]; exact this
  have a2 : ∀ x ∈ l.drop k, V n < V x := fun x hx => by
    by_cases hkl : k < l.length
    · have e : l.drop k = l[k] :: l.drop (k + 1) := List.drop_eq_getElem_cons hkl
      have h3 := h2 hkl
      rw [coef_lt hkl] at h3
      rw [e] at hx q2
      rcases List.mem_cons.1 hx with rfl | hx
      · exact h3
      · have := (List.pairwise_cons.1 q2).1 x hx
        omega
    · rw [List.drop_of_length_le (by omega)] at hx; cases hx
  refine ⟨List.pairwise_append.2 ⟨q1, List.pairwise_cons.2 ⟨a2, q2⟩, fun a ha b hb => ?_⟩, fun x => ?_⟩
  · rcases List.mem_cons.1 hb with rfl | hb
    · exact a1 a ha
    · exact q3 a ha b hb
  · rw [List.mem_append, List.mem_cons]
    have : x ∈ l ↔ x ∈ l.take k ∨ x ∈ l.drop k := by rw [← List.mem_append, hs]
    rw [this]
    constructor
    · rintro (h | h | h)
      · exact .inr (.inl h)
      · exact .inl h
      · exact .inr (.inr h)
    · rintro (h | h | h)
      · exact .inr (.inl h)
      · exact .inl h
      · exact .inr (.inr h)
theorem Rise.nodup {l : List F} (h : Rise l) : l.Nodup := h.imp fun {a b} hab e => by rw [e] at hab; omega
/-- What Sorted has put in its place. -/
structure SortedSt (fs : List F) (i : Nat) (S : List F) : Prop where
  rise : Rise S
  mem : ∀ x, x ∈ S ↔ x ∈ fs.take i
theorem SortedSt.start (fs : List F) : SortedSt fs 0 [] := ⟨Rise.nil, fun x => by rw [List.take_zero]⟩
theorem take_mem {fs : List F} {i : Nat} (hi : i < fs.length) (x : F) : x ∈ fs.take (i + 1) ↔ x = coef fs i ∨ x ∈ fs.take i := by
  rw [List.take_succ_eq_append_getElem hi, List.mem_append, List.mem_singleton, coef_lt hi]
  exact Or.comm
theorem SortedSt.same {fs : List F} {i : Nat} {S : List F} (h : SortedSt fs i S) (hi : i < fs.length) {k : Nat} (hk : k < S.length) (he : coef S k = coef fs i) : SortedSt fs (i + 1) S :=
  ⟨h.rise, fun x => by
    rw [take_mem hi, ← h.mem, ← he, coef_lt hk]
    exact ⟨.inr, fun h => h.elim (fun e => e ▸ List.getElem_mem hk) id⟩⟩
theorem SortedSt.more {fs : List F} {i : Nat} {S : List F} (h : SortedSt fs i S) (hi : i < fs.length) {k : Nat} (hk : k ≤ S.length) (h1 : ∀ j, j < k → V (coef S j) < V (coef fs i)) (h2 : k < S.length → V (coef fs i) < V (coef S k)) : SortedSt fs (i + 1) (S.take k ++ coef fs i :: S.drop k) :=
  have a := h.rise.insert hk h1 h2
  ⟨a.1, fun x => by rw [a.2, take_mem hi, h.mem]⟩
theorem SortedSt.len {fs : List F} {i : Nat} {S : List F} (h : SortedSt fs i S) : S.length ≤ i := by
  have h1 := h.rise.nodup
  have h2 : ∀ (l m : List F), l.Nodup → (∀ x ∈ l, x ∈ m) → l.length ≤ m.length := by
    intro l
    induction l with
    | nil => intro m _ _; exact Nat.zero_le _
    | cons a l ih =>
      intro m hd hm
      obtain ⟨k1, k2⟩ := List.nodup_cons.1 hd
      have ha := hm a (List.mem_cons_self ..)
      have := ih (m.erase a) k2 fun x hx => (List.mem_erase_of_ne (fun e => k1 (by rw [← e]; exact hx))).2 (hm x (List.mem_cons_of_mem _ hx))
      rw [List.length_erase_of_mem ha] at this
      have := List.length_pos_of_mem ha
      rw [List.length_cons]; omega
  have := h2 S (fs.take i) h1 fun x hx => (h.mem x).1 hx
  rw [List.length_take] at this
  omega
/-- All of some numbers, rising, each once. -/
def SortedOf (fs S : List F) : Prop := Rise S ∧ ∀ x, x ∈ S ↔ x ∈ fs
theorem SortedSt.done {fs : List F} {i : Nat} {S : List F} (h : SortedSt fs i S) (hi : fs.length ≤ i) : SortedOf fs S := ⟨h.rise, fun x => by rw [h.mem, List.take_of_length_le hi]⟩
theorem SortedOf.same {fs S S' : List F} (h : SortedOf fs S) (k : SortedOf fs S') : S = S' := h.1.same k.1 fun x => by rw [h.2, k.2]
end Go.Proofs.Ytelnhpcehmdffaa

