/-
  Plain arithmetic modulo the prime 2^61 - 1: that it is a field with a generator, Fermat's little theorem, and what the numbers of the program mean in it. No program in sight.
-/
namespace Go.Proofs.Ytcnhgkgabddjmaa

/-- The prime 2^61 - 1. -/
def Q : Nat := 2305843009213693951
theorem Q_eq : Q = 2305843009213693951 := rfl
instance : NeZero Q := ⟨by unfold Q; decide⟩
/-- The field. -/
abbrev F := Fin Q

/-! ### A power by squaring, to be reckoned by the kernel -/
def pw (g : Nat) : Nat → Nat → Nat → Nat
  | 0, _, acc => acc
  | fuel + 1, e, acc => pw (g * g % Q) fuel (e / 2) (if e % 2 = 1 then acc * g % Q else acc)

theorem pw_eq (fuel : Nat) : ∀ (g e acc : Nat), e < 2 ^ fuel → acc < Q → pw g fuel e acc = acc * g ^ e % Q := by
  induction fuel with
  | zero =>
    intro g e acc he ha
    have : e = 0 := by simpa using he
    subst this
    simp [pw, Nat.mod_eq_of_lt ha]
  | succ f ih =>
    intro g e acc he ha
    have h2 : e / 2 < 2 ^ f := by rw [Nat.pow_succ] at he; omega
    have hQ : 0 < Q := by unfold Q; decide
    have hsq : (g * g % Q) ^ (e / 2) % Q = (g ^ 2) ^ (e / 2) % Q := by rw [← Nat.pow_mod, Nat.pow_two]
    by_cases h1 : e % 2 = 1
    · rw [pw, if_pos h1, ih _ _ _ h2 (Nat.mod_lt _ hQ), Nat.mul_mod, hsq, ← Nat.mul_mod, ← Nat.pow_mul]
      have he2 : e = 2 * (e / 2) + 1 := by omega
      rw [Nat.mul_mod, Nat.mod_mod, ← Nat.mul_mod, Nat.mul_assoc, ← Nat.pow_succ', Nat.succ_eq_add_one, ← he2]
    · rw [pw, if_neg h1, ih _ _ _ h2 ha, Nat.mul_mod, hsq, ← Nat.mul_mod, ← Nat.pow_mul]
      have he2 : e = 2 * (e / 2) := by omega
      rw [← he2]

theorem F_pow_val (g : F) (e : Nat) : (g ^ e).val = g.val ^ e % Q := by
  induction e with
  | zero =>
    have h : (g ^ 0 : F) = 1 := by grind
    rw [h, Nat.pow_zero]
    show (1 % Q) = 1 % Q
    rfl
  | succ e ih =>
    have h : g ^ (e + 1) = g ^ e * g := by grind
    rw [h, Fin.val_mul, ih, Nat.pow_succ, Nat.mod_mul_mod]

def gen : F := 37
theorem gen_pow (e : Nat) (he : e < 2 ^ 64) : (gen ^ e).val = pw 37 64 e 1 := by
  rw [F_pow_val, pw_eq 64 37 e 1 he (by unfold Q; decide), Nat.one_mul]; rfl
theorem gen_pow_ne (e : Nat) (he : e < 2 ^ 64) (h : pw 37 64 e 1 ≠ 1) : gen ^ e ≠ 1 := by
  intro e1
  apply h
  rw [← gen_pow e he, e1]; rfl
theorem gen_pow_eq (e : Nat) (he : e < 2 ^ 64) (h : pw 37 64 e 1 = 1) : gen ^ e = 1 := by
  apply Fin.ext
  rw [gen_pow e he, h]; rfl

def M : Nat := 2305843009213693950
theorem gen_M : gen ^ M = 1 := gen_pow_eq M (by decide) (by decide +kernel)
def facs : List Nat := [2, 3, 5, 7, 11, 13, 31, 41, 61, 151, 331, 1321]
theorem gen_q (q : Nat) (hq : q ∈ facs) : gen ^ (M / q) ≠ 1 := by
  have h : ∀ q ∈ facs, pw 37 64 (M / q) 1 ≠ 1 := by decide +kernel
  have hlt : ∀ q ∈ facs, M / q < 2 ^ 64 := by decide +kernel
  exact gen_pow_ne _ (hlt q hq) (h q hq)
theorem fac_prime : ∀ q ∈ facs, ∀ d < q, 2 ≤ d → ¬ d ∣ q := by
  have h : ∀ q ∈ facs, ∀ d < q, 2 ≤ d → q % d ≠ 0 := by decide +kernel
  intro q hq d hd h2 hdv
  exact h q hq d hd h2 (Nat.mod_eq_zero_of_dvd hdv)

/-- A least divisor from 2 on is a prime: it divides a product just if it divides a factor. -/
theorem least_div (e : Nat) (he : 2 ≤ e) : ∃ p, 2 ≤ p ∧ p ∣ e ∧ ∀ d, 2 ≤ d → d ∣ e → p ≤ d := by
  have key : ∀ n, ∀ d, d ≤ n → 2 ≤ d → d ∣ e → ∃ p, 2 ≤ p ∧ p ∣ e ∧ ∀ d, 2 ≤ d → d ∣ e → p ≤ d := by
    intro n
    induction n with
    | zero => intro d hd h2 _; omega
    | succ n ih =>
      intro d hd h2 hdv
      by_cases h : ∃ d', 2 ≤ d' ∧ d' ∣ e ∧ d' < d
      · obtain ⟨d', h1, h2', h3⟩ := h
        exact ih d' (by omega) h1 h2'
      · exact ⟨d, h2, hdv, fun d' h1 h2' => by
          by_cases hlt : d' < d
          · exact absurd ⟨d', h1, h2', hlt⟩ h
          · omega⟩
  exact key e e (Nat.le_refl _) he (Nat.dvd_refl _)

theorem least_euclid (e p : Nat) (h2 : 2 ≤ p) (hp : p ∣ e) (hl : ∀ d, 2 ≤ d → d ∣ e → p ≤ d) (a b : Nat) (h : p ∣ a * b) : p ∣ a ∨ p ∣ b := by
  have hg : Nat.gcd p a ∣ p := Nat.gcd_dvd_left p a
  by_cases h1 : Nat.gcd p a = 1
  · exact .inr (Nat.Coprime.dvd_of_dvd_mul_left h1 h)
  · have h0 : Nat.gcd p a ≠ 0 := by
      intro h0
      have := Nat.eq_zero_of_gcd_eq_zero_left h0
      omega
    have hle : p ≤ Nat.gcd p a := hl _ (by omega) (Nat.dvd_trans hg hp)
    have hle2 : Nat.gcd p a ≤ p := Nat.le_of_dvd (by omega) hg
    have heq : Nat.gcd p a = p := by omega
    left
    rw [← heq]
    exact Nat.gcd_dvd_right p a

theorem M_facs : M = 2 * 3 * 3 * 5 * 5 * 7 * 11 * 13 * 31 * 41 * 61 * 151 * 331 * 1321 := by decide +kernel

/-- What divides M, and is more than 1, has one of the prime factors of M. -/
theorem fac_of (e : Nat) (he : 2 ≤ e) (hd : e ∣ M) : ∃ q ∈ facs, q ∣ e := by
  obtain ⟨p, h2, hp, hl⟩ := least_div e he
  have eu := least_euclid e p h2 hp hl
  have fin : ∀ q ∈ facs, p ∣ q → ∃ q ∈ facs, q ∣ e := by
    intro q hq hpq
    have hle : p ≤ q := Nat.le_of_dvd (by have := fac_prime q hq; revert this; revert hq; unfold facs; simp; omega) hpq
    by_cases hlt : p < q
    · exact absurd hpq (fac_prime q hq p hlt h2)
    · have : p = q := by omega
      subst this
      exact ⟨p, hq, hp⟩
  have hM : p ∣ 2 * 3 * 3 * 5 * 5 * 7 * 11 * 13 * 31 * 41 * 61 * 151 * 331 * 1321 := by rw [← M_facs]; exact Nat.dvd_trans hp hd
  refine (eu _ _ hM).elim (fun hM => ?_) (fun h => fin _ (by decide) h)
  refine (eu _ _ hM).elim (fun hM => ?_) (fun h => fin _ (by decide) h)
  refine (eu _ _ hM).elim (fun hM => ?_) (fun h => fin _ (by decide) h)
  refine (eu _ _ hM).elim (fun hM => ?_) (fun h => fin _ (by decide) h)
  refine (eu _ _ hM).elim (fun hM => ?_) (fun h => fin _ (by decide) h)
  refine (eu _ _ hM).elim (fun hM => ?_) (fun h => fin _ (by decide) h)
  refine (eu _ _ hM).elim (fun hM => ?_) (fun h => fin _ (by decide) h)
  refine (eu _ _ hM).elim (fun hM => ?_) (fun h => fin _ (by decide) h)
  refine (eu _ _ hM).elim (fun hM => ?_) (fun h => fin _ (by decide) h)
  refine (eu _ _ hM).elim (fun hM => ?_) (fun h => fin _ (by decide) h)
  refine (eu _ _ hM).elim (fun hM => ?_) (fun h => fin _ (by decide) h)
  refine (eu _ _ hM).elim (fun hM => ?_) (fun h => fin _ (by decide) h)
  refine (eu _ _ hM).elim (fun hM => ?_) (fun h => fin _ (by decide) h)
  exact fin _ (by decide) hM

/-! ### The generator's order is M -/
theorem pow_add' (g : F) (a b : Nat) : g ^ (a + b) = g ^ a * g ^ b := by grind
theorem one_pow' (a : Nat) : (1 : F) ^ a = 1 := by
  induction a with
  | zero => grind
  | succ a ih => rw [pow_add', ih]; grind
theorem pow_mul' (g : F) (a b : Nat) : g ^ (a * b) = (g ^ a) ^ b := by
  induction b with
  | zero => simp only [Nat.mul_zero]; grind
  | succ b ih => rw [Nat.mul_succ, pow_add', ih]; grind
theorem mul_pow' (g h : F) (a : Nat) : (g * h) ^ a = g ^ a * h ^ a := by
  induction a with
  | zero => grind
  | succ b ih => rw [pow_add', ih, pow_add', pow_add']; grind
theorem add_zero' (x : F) : x + 0 = x := by grind
theorem zero_add' (x : F) : 0 + x = x := by grind
theorem mul_zero' (x : F) : x * 0 = 0 := by grind
theorem zero_mul' (x : F) : 0 * x = 0 := by grind
theorem mul_one' (x : F) : x * 1 = x := by grind
theorem one_mul' (x : F) : 1 * x = x := by grind
theorem zero_sub' (x : F) : 0 - x = -x := by grind
theorem pow_zero' (g : F) : g ^ 0 = 1 := by grind
theorem pow_one' (g : F) : g ^ 1 = g := by grind
theorem M_pos : 0 < M := by unfold M; decide
theorem one_ne : (1 : F) ≠ 0 := by decide +kernel

theorem gen_pow_gcd (a b : Nat) : gen ^ a = 1 → gen ^ b = 1 → gen ^ (Nat.gcd a b) = 1 := by
  induction a, b using Nat.gcd.induction with
  | H0 n => intro _ h; simpa using h
  | H1 m n hm ih =>
    intro h1 h2
    rw [Nat.gcd_rec]
    apply ih _ h1
    have e := Nat.div_add_mod n m
    rw [← e, pow_add', pow_mul', h1, one_pow'] at h2
    grind

theorem gen_order (k : Nat) (hk : 0 < k) (hlt : k < M) : gen ^ k ≠ 1 := by
  intro h
  have hg := gen_pow_gcd k M h gen_M
  have hd : Nat.gcd k M ∣ M := Nat.gcd_dvd_right k M
  have hle : Nat.gcd k M ≤ k := Nat.le_of_dvd hk (Nat.gcd_dvd_left k M)
  obtain ⟨e, he⟩ := hd
  generalize Nat.gcd k M = d at *
  have he2 : 2 ≤ e := by
    rcases e with _ | _ | e
    · rw [Nat.mul_zero] at he; have := M_pos; omega
    · rw [Nat.zero_add, Nat.mul_one] at he; omega
    · omega
  obtain ⟨q, hq, c, hc⟩ := fac_of e he2 ⟨d, by rw [Nat.mul_comm]; exact he⟩
  apply gen_q q hq
  have hq0 : 0 < q := by revert hq; unfold facs; simp; omega
  have : M / q = d * c := by
    rw [he, hc]
    rw [show d * (q * c) = q * (d * c) by grind]
    exact Nat.mul_div_cancel_left _ hq0
  rw [this, pow_mul', hg, one_pow']

theorem gen_unit (k : Nat) (hk : k ≤ M) : gen ^ k * gen ^ (M - k) = 1 := by
  rw [← pow_add', show k + (M - k) = M by omega, gen_M]
theorem gen_ne (k : Nat) (hk : k ≤ M) : gen ^ k ≠ 0 := by
  intro h
  have := gen_unit k hk
  rw [h] at this
  apply one_ne
  grind
theorem gen_inj (i j : Nat) (hi : i < M) (hj : j < M) (h : gen ^ i = gen ^ j) : i = j := by
  have main : ∀ i j, i < M → j < M → i < j → gen ^ i = gen ^ j → False := by
    intro i j hi hj hij h
    have h1 := gen_unit i (by omega)
    have h2 : gen ^ (j - i) = 1 := by
      have e : gen ^ j = gen ^ i * gen ^ (j - i) := by rw [← pow_add', show i + (j - i) = j by omega]
      rw [e] at h
      have : gen ^ (M - i) * gen ^ i = gen ^ (M - i) * (gen ^ i * gen ^ (j - i)) := by rw [← h]
      grind
    exact gen_order (j - i) (by omega) (by omega) h2
  rcases Nat.lt_trichotomy i j with h1 | h1 | h1
  · exact (main i j hi hj h1 h).elim
  · exact h1
  · exact (main j i hj hi h1 h.symm).elim

/-! ### Pigeons -/
theorem pigeon : ∀ (n m : Nat) (f : Nat → Nat), (∀ i, i < m → f i < n) → (∀ i j, i < m → j < m → f i = f j → i = j) → m ≤ n := by
  intro n
  induction n with
  | zero =>
    intro m f h _
    rcases m with _ | m
    · omega
    · have := h 0 (by omega); omega
  | succ n ih =>
    intro m f h hi
    by_cases hx : ∃ i, i < m ∧ f i = n
    · obtain ⟨i0, h0, hf⟩ := hx
      have : m - 1 ≤ n := by
        apply ih (m - 1) (fun i => f (if i < i0 then i else i + 1))
        · intro i him
          have hlt : (if i < i0 then i else i + 1) < m := by split <;> omega
          have h1 := h _ hlt
          have h2 : f (if i < i0 then i else i + 1) ≠ n := by
            intro e
            have := hi _ _ hlt h0 (e.trans hf.symm)
            split at this <;> omega
          omega
        · intro i j him hjm e
          have h1 : (if i < i0 then i else i + 1) < m := by split <;> omega
          have h2 : (if j < i0 then j else j + 1) < m := by split <;> omega
          have := hi _ _ h1 h2 e
          split at this <;> split at this <;> omega
      omega
    · have := ih m f (fun i him => by
        have h1 := h i him
        have h2 : f i ≠ n := fun e => hx ⟨i, him, e⟩
        omega) hi
      omega

/-- Each number but 0 is a power of the generator. -/
theorem gen_all (x : F) (hx : x ≠ 0) : ∃ k, k < M ∧ x = gen ^ k := by
  by_cases h : ∃ k, k < M ∧ x = gen ^ k
  · exact h
  · exfalso
    have hxv : x.val ≠ 0 := by intro e; apply hx; exact Fin.ext e
    have hQM : Q = M + 1 := by unfold Q M; decide
    have key := pigeon (M - 1) M (fun k => if (gen ^ k).val < x.val then (gen ^ k).val - 1 else (gen ^ k).val - 2) (by
      intro i hi
      have h1 : (gen ^ i).val ≠ 0 := by intro e; apply gen_ne i (by omega); exact Fin.ext e
      have h2 : (gen ^ i).val ≠ x.val := by intro e; exact h ⟨i, hi, (Fin.ext e).symm⟩
      have h3 := (gen ^ i).isLt
      have h4 := x.isLt
      split <;> omega) (by
      intro i j hi hj e
      have h1 : (gen ^ i).val ≠ 0 := by intro e; apply gen_ne i (by omega); exact Fin.ext e
      have h2 : (gen ^ i).val ≠ x.val := by intro e; exact h ⟨i, hi, (Fin.ext e).symm⟩
      have h1' : (gen ^ j).val ≠ 0 := by intro e; apply gen_ne j (by omega); exact Fin.ext e
      have h2' : (gen ^ j).val ≠ x.val := by intro e; exact h ⟨j, hj, (Fin.ext e).symm⟩
      have e2 : (gen ^ i).val = (gen ^ j).val := by
        split at e <;> split at e <;> omega
      exact gen_inj i j hi hj (Fin.ext e2))
    have := M_pos
    omega

/-! ### What follows -/
/-- Fermat. -/
theorem fermat (x : F) (hx : x ≠ 0) : x ^ M = 1 := by
  obtain ⟨k, _, rfl⟩ := gen_all x hx
  rw [← pow_mul', Nat.mul_comm, pow_mul', gen_M, one_pow']
theorem mul_ne (x y : F) (hx : x ≠ 0) (hy : y ≠ 0) : x * y ≠ 0 := by
  obtain ⟨k, hk, rfl⟩ := gen_all x hx
  intro h
  have := gen_unit k (by omega)
  apply hy
  grind
theorem mul_eq_zero' (x y : F) : x * y = 0 ↔ x = 0 ∨ y = 0 := by
  constructor
  · intro h
    by_cases hx : x = 0
    · exact .inl hx
    · by_cases hy : y = 0
      · exact .inr hy
      · exact absurd h (mul_ne x y hx hy)
  · rintro (rfl | rfl) <;> grind
/-- What takes a product back: 0 of 0. -/
def inv (x : F) : F := x ^ (M - 1)
theorem zero_pow' (n : Nat) (hn : 0 < n) : (0 : F) ^ n = 0 := by
  obtain ⟨k, rfl⟩ : ∃ k, n = k + 1 := ⟨n - 1, by omega⟩
  rw [pow_add']; grind
theorem inv_zero : inv 0 = 0 := zero_pow' _ (by unfold M; decide)
theorem mul_inv (x : F) (hx : x ≠ 0) : x * inv x = 1 := by
  unfold inv
  have : x * x ^ (M - 1) = x ^ (1 + (M - 1)) := by rw [pow_add', pow_one']
  rw [this, show 1 + (M - 1) = M by unfold M; decide, fermat x hx]
theorem inv_ne (x : F) (hx : x ≠ 0) : inv x ≠ 0 := by
  intro h
  have := mul_inv x hx
  rw [h] at this
  apply one_ne
  grind
theorem inv_inv (x : F) : inv (inv x) = x := by
  by_cases hx : x = 0
  · subst hx; rw [inv_zero, inv_zero]
  · have h1 := mul_inv x hx
    have h2 := mul_inv (inv x) (inv_ne x hx)
    grind
theorem inv_unique (x y : F) (h : x * y = 1) : inv x = y := by
  have hx : x ≠ 0 := by rintro rfl; apply one_ne; grind
  have := mul_inv x hx
  grind

/-! ### The program's numbers and the field -/
/-- A number of the program, in the field. -/
def T (a : Int) : F := Fin.ofNat Q (a % 2305843009213693951).toNat
/-- A number of the field, in the program. -/
def V (x : F) : Int := (x.val : Int)
theorem V_T (a : Int) : V (T a) = a % 2305843009213693951 := by
  unfold V T
  rw [Fin.val_ofNat, Q_eq]
  omega
theorem T_V (x : F) : T (V x) = x := by
  apply Fin.ext
  have := x.isLt
  unfold Q at this
  unfold V T
  rw [Fin.val_ofNat]
  generalize x.val = a at *
  rw [Q_eq]
  omega
theorem V_inj {x y : F} (h : V x = V y) : x = y := by rw [← T_V x, ← T_V y, h]
theorem V_inj_iff (x y : F) : V x = V y ↔ x = y := ⟨V_inj, fun h => by rw [h]⟩
theorem T_eq (a b : Int) : T a = T b ↔ a % 2305843009213693951 = b % 2305843009213693951 := by rw [← V_inj_iff, V_T, V_T]
theorem V_add (x y : F) : V (x + y) = (V x + V y) % 2305843009213693951 := by
  unfold V; rw [Fin.val_add]; generalize x.val = a; generalize y.val = b; rw [Q_eq]; omega
theorem V_mul (x y : F) : V (x * y) = (V x * V y) % 2305843009213693951 := by
  unfold V; rw [Fin.val_mul]; generalize x.val = a; generalize y.val = b; rw [Q_eq]; rfl
theorem V_zero : V 0 = 0 := rfl
theorem V_one : V 1 = 1 := rfl
theorem T_add (a b : Int) : T (a + b) = T a + T b := by
  apply V_inj; rw [V_add, V_T, V_T, V_T]; omega
theorem T_mul (a b : Int) : T (a * b) = T a * T b := by
  apply V_inj; rw [V_mul, V_T, V_T, V_T, Int.mul_emod]
theorem T_zero : T 0 = 0 := rfl
theorem T_one : T 1 = 1 := rfl
theorem T_mod (a : Int) : T (a % 2305843009213693951) = T a := by rw [T_eq]; omega
theorem T_sub (a b : Int) : T (a - b) = T a - T b := by
  have h : T (a - b) + T b = T a := by rw [← T_add]; congr 1; omega
  rw [← h]; grind
theorem T_neg (a : Int) : T (-a) = - T a := by
  have h := T_sub 0 a
  rw [T_zero, Int.zero_sub] at h
  rw [h]; grind
theorem V_sub (x y : F) : V (x - y) = (V x - V y) % 2305843009213693951 := by
  have h : x - y = T (V x - V y) := by rw [T_sub, T_V, T_V]
  rw [h, V_T]
theorem V_neg (x : F) : V (-x) = (- V x) % 2305843009213693951 := by
  have h : -x = T (- V x) := by rw [T_neg, T_V]
  rw [h, V_T]
theorem V_eq_zero (x : F) : V x = 0 ↔ x = 0 := by rw [← V_zero, V_inj_iff]
theorem T_small (a : Int) (h0 : 0 ≤ a) (h1 : a < 2305843009213693951) : V (T a) = a := by rw [V_T]; omega
theorem T_pow (a : Int) (n : Nat) : T (a ^ n) = T a ^ n := by
  induction n with
  | zero => rw [pow_zero', Int.pow_zero, T_one]
  | succ n ih => rw [Int.pow_succ, T_mul, ih, pow_add', pow_one']
theorem V_lo (x : F) : 0 ≤ V x := by unfold V; omega
theorem V_hi (x : F) : V x < 2305843009213693951 := by have := x.isLt; unfold V; unfold Q at this; omega
end Go.Proofs.Ytcnhgkgabddjmaa
