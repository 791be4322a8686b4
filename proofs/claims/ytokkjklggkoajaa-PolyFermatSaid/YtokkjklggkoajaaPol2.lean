/-
  Polynomials: lengths, division, what divides, the greatest common divisor, roots. Plain Lean.
-/
import Derived.Test.YtokkjklggkoajaaPol
namespace Go.Proofs.Ytokkjklggkoajaa
namespace Pol

theorem sub_zero' (x : F) : x - 0 = x := by grind
/-! ### Lengths -/
def len (p : Pol) : Nat := p.l.length
/-- The first coefficient. -/
def top (p : Pol) : F := coef p.l (p.len - 1)
theorem len_zero : (0 : Pol).len = 0 := by unfold len; rw [zero_l]; rfl
theorem eq_zero_of_len {p : Pol} (h : p.len = 0) : p = 0 := by
  refine ext fun i => ?_
  rw [List.eq_nil_of_length_eq_zero h, coef_nought, coef_nil]
theorem len_pos {p : Pol} (h : p ≠ 0) : 0 < p.len := Nat.pos_of_ne_zero fun e => h (eq_zero_of_len e)
theorem trimF_last : ∀ {l : List F}, trimF l = l → l ≠ [] → coef l (l.length - 1) ≠ 0
  | [], _, h => absurd rfl h
  | a :: l, ht, _ => by
    rw [trimF] at ht
    by_cases h : trimF l = [] ∧ a = 0
    · rw [if_pos h] at ht; cases ht
    · rw [if_neg h] at ht
      injection ht with _ ht
      cases l with
      | nil =>
        show coef [a] 0 ≠ 0
        rw [coef_zero]
        exact fun e => h ⟨rfl, e⟩
      | cons b l =>
        have := trimF_last ht (by simp)
        simpa [coef] using this
theorem top_ne {p : Pol} (h : p ≠ 0) : p.top ≠ 0 := trimF_last p.tr fun e => h (eq_zero_of_len (by unfold len; rw [e]; rfl))
theorem coef_high {p : Pol} {i : Nat} (h : p.len ≤ i) : coef p.l i = 0 := coef_ge h
theorem len_le {p : Pol} {n : Nat} (h : ∀ i, n ≤ i → coef p.l i = 0) : p.len ≤ n := by
  rcases Nat.lt_or_ge n p.len with hlt | hge
  · have hp : p ≠ 0 := fun e => by rw [e, len_zero] at hlt; omega
    exact absurd (h (p.len - 1) (by omega)) (top_ne hp)
  · exact hge
theorem len_ge {p : Pol} {i : Nat} (h : coef p.l i ≠ 0) : i < p.len := Nat.lt_of_not_le fun hle => h (coef_high hle)
theorem len_add (p q : Pol) : (p + q).len ≤ max p.len q.len := len_le fun i hi => by
  rw [coef_add, coef_high (by omega), coef_high (by omega), add_zero']
theorem len_neg (p : Pol) : (-p).len = p.len := by
  have h : ∀ q : Pol, (-q).len ≤ q.len := fun q => len_le fun i hi => by rw [coef_neg, coef_high hi]; grind
  have h1 := h p
  have h2 := h (-p)
  rw [show - -p = p by grind] at h2
  omega
theorem len_sub (p q : Pol) : (p - q).len ≤ max p.len q.len := by
  rw [show p - q = p + -q by grind]
  have := len_add p (-q)
  rwa [len_neg] at this
/-- The first coefficient of a product. -/
theorem coef_top_mul (p q : Pol) (hp : p ≠ 0) (hq : q ≠ 0) : coef (p * q).l (p.len + q.len - 2) = p.top * q.top := by
  have hp' := len_pos hp
  have hq' := len_pos hq
  rw [coef_mul, coef_mulL_sum]
  have e : ∀ i, i < p.len + q.len - 2 + 1 → (coef p.l i * coef q.l (p.len + q.len - 2 - i)) = if i = p.len - 1 then p.top * q.top else 0 := by
    intro i hi
    split
    · rename_i h
      subst h
      rw [show p.len + q.len - 2 - (p.len - 1) = q.len - 1 by omega]; rfl
    · rename_i h
      rcases Nat.lt_or_ge i (p.len - 1) with h1 | h1
      · rw [coef_high (p := q) (by omega), mul_zero']
      · rw [coef_high (p := p) (by omega), zero_mul']
  rw [sumF_congr _ e]
  have s : ∀ (c : F) (n k : Nat), sumF (fun i => if i = k then c else 0) n = if k < n then c else 0 := by
    intro c n
    induction n with
    | zero => intro k; rw [sumF, if_neg (by omega)]
    | succ n ih =>
      intro k
      rw [sumF, ih]
      by_cases h1 : n = k
      · rw [if_neg (by omega), if_pos h1, if_pos (by omega), zero_add']
      · rw [if_neg h1, add_zero']
        by_cases h2 : k < n
        · rw [if_pos h2, if_pos (by omega)]
        · rw [if_neg h2, if_neg (by omega)]
  rw [s, if_pos (by omega)]
theorem mul_ne_zero {p q : Pol} (hp : p ≠ 0) (hq : q ≠ 0) : p * q ≠ 0 := by
  intro e
  have := coef_top_mul p q hp hq
  rw [e, coef_nought] at this
  exact mul_ne _ _ (top_ne hp) (top_ne hq) this.symm
theorem len_mul {p q : Pol} (hp : p ≠ 0) (hq : q ≠ 0) : (p * q).len = p.len + q.len - 1 := by
  have hp' := len_pos hp
  have hq' := len_pos hq
  apply Nat.le_antisymm
  · refine len_le fun i hi => ?_
    rw [coef_mul, coef_mulL_sum]
    rw [sumF_congr (g := fun _ => 0) _ fun j hj => ?_]
    · exact sumF_zero _ (fun _ => rfl) _
    · rcases Nat.lt_or_ge j p.len with h1 | h1
      · rw [coef_high (p := q) (by omega), mul_zero']
      · rw [coef_high (p := p) (by omega), zero_mul']
  · have h : coef (p * q).l (p.len + q.len - 2) ≠ 0 := by
      rw [coef_top_mul p q hp hq]; exact mul_ne _ _ (top_ne hp) (top_ne hq)
    have := len_ge h
    omega
theorem top_mul {p q : Pol} (hp : p ≠ 0) (hq : q ≠ 0) : (p * q).top = p.top * q.top := by
  have hp' := len_pos hp
  have hq' := len_pos hq
  unfold top
  rw [len_mul hp hq, show p.len + q.len - 1 - 1 = p.len + q.len - 2 by omega]
  exact coef_top_mul p q hp hq
theorem mul_cancel {p q r : Pol} (hr : r ≠ 0) (h : p * r = q * r) : p = q := by
  by_cases e : p - q = 0
  · grind
  · exact absurd (show (p - q) * r = 0 by grind) (mul_ne_zero e hr)

/-! ### Division -/
/-- A quotient, and what is left. -/
structure DivOk (a b q r : Pol) : Prop where
  eq : a = q * b + r
  less : r.len < b.len
theorem DivOk.same {a b q r q' r' : Pol} (h : DivOk a b q r) (k : DivOk a b q' r') : q = q' ∧ r = r' := by
  have hb : b ≠ 0 := fun e => by have := h.less; rw [e, len_zero] at this; omega
  have e1 := h.eq
  have e2 := k.eq
  by_cases e : q - q' = 0
  · exact ⟨by grind, by grind⟩
  · have h1 : (q - q') * b = r' - r := by grind
    have h2 := len_mul e hb
    have h3 := len_sub r' r
    have := len_pos e
    have := h.less
    have := k.less
    rw [h1] at h2
    omega
/-- What divides. -/
def Dvd (d a : Pol) : Prop := ∃ w : Pol, a = w * d
theorem Dvd.refl (a : Pol) : Dvd a a := ⟨1, by grind⟩
theorem Dvd.zero (a : Pol) : Dvd a 0 := ⟨0, by grind⟩
theorem Dvd.trans {a b c : Pol} (h : Dvd a b) (k : Dvd b c) : Dvd a c := by
  obtain ⟨u, rfl⟩ := h
  obtain ⟨v, rfl⟩ := k
  exact ⟨v * u, by grind⟩
theorem Dvd.add {d a b : Pol} (h : Dvd d a) (k : Dvd d b) : Dvd d (a + b) := by
  obtain ⟨u, rfl⟩ := h
  obtain ⟨v, rfl⟩ := k
  exact ⟨u + v, by grind⟩
theorem Dvd.sub {d a b : Pol} (h : Dvd d a) (k : Dvd d b) : Dvd d (a - b) := by
  obtain ⟨u, rfl⟩ := h
  obtain ⟨v, rfl⟩ := k
  exact ⟨u - v, by grind⟩
theorem Dvd.mul {d a : Pol} (h : Dvd d a) (b : Pol) : Dvd d (b * a) := by
  obtain ⟨u, rfl⟩ := h
  exact ⟨b * u, by grind⟩
theorem Dvd.len {d a : Pol} (h : Dvd d a) (ha : a ≠ 0) : d.len ≤ a.len := by
  obtain ⟨u, rfl⟩ := h
  have hu : u ≠ 0 := fun e => ha (by rw [e]; grind)
  have hd : d ≠ 0 := fun e => ha (by rw [e]; grind)
  rw [len_mul hu hd]
  have := len_pos hu
  omega
theorem DivOk.dvd {a b q r : Pol} (h : DivOk a b q r) (hd : Dvd b a) : r = 0 := by
  obtain ⟨u, hu⟩ := hd
  exact (h.same ⟨by rw [hu]; grind, by rw [len_zero]; have := h.less; omega⟩ : q = u ∧ r = 0).2

/-! ### The greatest common divisor -/
/-- What divides both, and what divides both divides it; 1 ahead, or nothing. -/
structure GcdOk (a b g : Pol) : Prop where
  left : Dvd g a
  right : Dvd g b
  best : ∀ d, Dvd d a → Dvd d b → Dvd d g
  monic : g ≠ 0 → g.top = 1
theorem GcdOk.same {a b g g' : Pol} (h : GcdOk a b g) (k : GcdOk a b g') : g = g' := by
  obtain ⟨u, hu⟩ := k.best g h.left h.right
  obtain ⟨v, hv⟩ := h.best g' k.left k.right
  by_cases hg : g = 0
  · rw [hu, hg]; grind
  · have hg' : g' ≠ 0 := fun e => hg (by rw [hv, e]; grind)
    have hu0 : u ≠ 0 := fun e => hg' (by rw [hu, e]; grind)
    have hl := len_mul hu0 hg
    have hl2 : g.len ≤ g'.len := Dvd.len ⟨u, hu⟩ hg'
    have hl3 : g'.len ≤ g.len := Dvd.len ⟨v, hv⟩ hg
    have hup := len_pos hu0
    have hgp := len_pos hg
    rw [← hu] at hl
    have hu1 : u.len = 1 := by omega
    have ht := top_mul hu0 hg
    rw [← hu, k.monic hg', h.monic hg, mul_one'] at ht
    have : u = 1 := by
      refine ext fun i => ?_
      rw [one_l]
      cases i with
      | zero => rw [coef_zero, ht]; unfold top; rw [hu1]
      | succ i => rw [coef_high (by omega), coef_succ, coef_nil]
    rw [hu, this]; grind
/-- One step of Euclid's. -/
theorem gcd_step {a b q r g : Pol} (h : DivOk a b q r) : GcdOk b r g ↔ GcdOk a b g := by
  have e := h.eq
  constructor
  · intro k
    refine ⟨by rw [e]; exact (k.left.mul q).add k.right, k.left, fun d h1 h2 => k.best d h2 ?_, k.monic⟩
    have : r = a - q * b := by grind
    rw [this]; exact h1.sub (h2.mul q)
  · intro k
    refine ⟨k.right, ?_, fun d h1 h2 => k.best d (by rw [e]; exact (h1.mul q).add h2) h1, k.monic⟩
    have : r = a - q * b := by grind
    rw [this]; exact k.left.sub (k.right.mul q)
/-- A polynomial times a number. -/
def scale (p : Pol) (c : F) : Pol := con c * p
theorem coef_scale (p : Pol) (c : F) (i : Nat) : coef (scale p c).l i = c * coef p.l i := by
  unfold scale
  rw [coef_mul, mulL_congr_left p.l (p' := [c]) (fun i => by unfold con; rw [coef_mk]), coef_mulL_cons]
  cases i with
  | zero => rw [coef_zero, add_zero']
  | succ i => rw [coef_succ, mulL_nil_coef, add_zero']
/-- .. with 1 ahead; nothing of nothing. -/
def monic (p : Pol) : Pol := scale p (inv p.top)
theorem con_mul (a b : F) : con a * con b = con (a * b) := ext fun i => by
  have := coef_scale (con b) a i
  unfold scale at this
  rw [this, coef_con, coef_con]; split
  · rfl
  · exact mul_zero' a
theorem con_one : con 1 = (1 : Pol) := rfl
theorem monic_zero : monic 0 = 0 := by unfold monic scale; grind
theorem scale_back {p : Pol} {c : F} (hc : c ≠ 0) : p = con (inv c) * scale p c := by
  unfold scale
  rw [← mul_assoc', con_mul, show inv c * c = 1 by rw [← mul_inv c hc]; grind, con_one]; grind
theorem gcd_end {a : Pol} : GcdOk a 0 (monic a) := by
  by_cases ha : a = 0
  · rw [ha, monic_zero]
    exact ⟨.refl _, .refl _, fun d h _ => h, fun h => absurd rfl h⟩
  · have ht := top_ne ha
    have hi := inv_ne _ ht
    refine ⟨⟨con (inv (inv a.top)), scale_back hi⟩, .zero _, fun d h _ => h.mul _, fun hm => ?_⟩
    have hl : (monic a).len = a.len := by
      apply Nat.le_antisymm
      · exact len_le fun i h => by unfold monic; rw [coef_scale, coef_high h, mul_zero']
      · have : coef (monic a).l (a.len - 1) ≠ 0 := by unfold monic; rw [coef_scale]; exact mul_ne _ _ hi ht
        have := len_ge this
        have := len_pos ha
        omega
    show coef (monic a).l ((monic a).len - 1) = 1
    rw [hl]
    unfold monic
    rw [coef_scale]
    show inv a.top * a.top = 1
    rw [← mul_inv _ ht]; grind

/-! ### Values and roots -/
def at' (p : Pol) (x : F) : F := ev p.l x
theorem ev_congr {p q : List F} (h : ∀ i, coef p i = coef q i) (x : F) : ev p x = ev q x := by
  rw [← ev_trimF p, trimF_congr h, ev_trimF]
theorem at_add (p q : Pol) (x : F) : (p + q).at' x = p.at' x + q.at' x := by
  unfold at'
  rw [← ev_addL]; exact ev_congr (fun i => by rw [coef_add, coef_addL]) x
theorem at_mul (p q : Pol) (x : F) : (p * q).at' x = p.at' x * q.at' x := by
  unfold at'
  rw [← ev_mulL]; exact ev_congr (coef_mul p q) x
theorem at_con (c : F) (x : F) : (con c).at' x = c := by
  unfold at'
  rw [ev_congr (q := [c]) (fun i => by unfold con; rw [coef_mk]), ev, ev, mul_zero', add_zero']
theorem at_neg (p : Pol) (x : F) : (-p).at' x = -p.at' x := by
  unfold at'
  rw [ev_congr (q := p.l.map (-1 * ·)) (fun i => by rw [coef_neg, coef_smul]; grind), ev_smul]; grind
theorem at_sub (p q : Pol) (x : F) : (p - q).at' x = p.at' x - q.at' x := by
  rw [show p - q = p + -q by grind, at_add, at_neg]; grind
theorem at_zero (x : F) : (0 : Pol).at' x = 0 := by unfold at'; rw [zero_l, ev]
/-- x less a number. -/
def lin (r : F) : Pol := mk' [-r, 1]
theorem at_lin (r x : F) : (lin r).at' x = x - r := by
  unfold at' lin
  rw [ev_congr (coef_mk _), ev, ev, ev, mul_zero', add_zero', mul_one']; grind
theorem coef_lin (r : F) (i : Nat) : coef (lin r).l i = coef [-r, 1] i := coef_mk _ i
theorem lin_l (r : F) : (lin r).l = [-r, 1] := by
  show trimF [-r, 1] = _
  exact trimF_snoc [-r] 1 one_ne
theorem lin_ne (r : F) : lin r ≠ 0 := fun e => by
  have := coef_lin r 1
  rw [e, coef_nought, coef_succ, coef_zero] at this
  exact one_ne this.symm
theorem len_lin (r : F) : (lin r).len = 2 := by unfold len; rw [lin_l]; rfl
/-- x. -/
def X : Pol := mk' [0, 1]
theorem lin_eq (r : F) : lin r = X - con r := ext fun i => by
  rw [show X - con r = X + -con r by grind, coef_add, coef_neg, coef_lin, coef_con]
  unfold X
  rw [coef_mk]
  cases i with
  | zero => rw [coef_zero, coef_zero, if_pos rfl, zero_add']
  | succ i => rw [coef_succ, coef_succ, if_neg (by omega)]; grind
theorem con_add (a b : F) : con a + con b = con (a + b) := ext fun i => by
  rw [coef_add, coef_con, coef_con, coef_con]; split
  · rfl
  · exact add_zero' 0
theorem mk_cons (a : F) (p : List F) : mk' (a :: p) = con a + X * mk' p := ext fun i => by
  rw [coef_mk, coef_add, coef_con, coef_mul]
  unfold X
  rw [mulL_congr (coef_mk [0, 1]) (coef_mk p), coef_mulL_cons]
  cases i with
  | zero => rw [coef_zero, coef_zero, if_pos rfl]; grind
  | succ i =>
    rw [coef_succ, coef_succ, if_neg (by omega), mulL_comm, mulL_one]; grind
theorem mk_l (p : Pol) : mk' p.l = p := ext fun i => coef_mk _ i
theorem mk_nil : mk' [] = 0 := ext fun i => by rw [coef_mk, coef_nil, coef_nought]
theorem con_zero : con 0 = (0 : Pol) := rfl
theorem div_lin (r : F) : ∀ p : List F, ∃ w : Pol, mk' p = w * lin r + con (ev p r)
  | [] => ⟨0, by rw [mk_nil, ev, con_zero]; grind⟩
  | a :: p => by
    obtain ⟨w, hw⟩ := div_lin r p
    refine ⟨X * w + con (ev p r), ?_⟩
    have e := lin_eq r
    rw [mk_cons, hw, ev, ← con_add, ← con_mul]
    grind
/-- A root is split off. -/
theorem root_dvd (p : Pol) (r : F) : p.at' r = 0 ↔ Dvd (lin r) p := by
  constructor
  · intro h
    obtain ⟨w, hw⟩ := div_lin r p.l
    unfold at' at h
    rw [mk_l, h, con_zero] at hw
    exact ⟨w, by rw [hw]; grind⟩
  · rintro ⟨w, rfl⟩
    rw [at_mul, at_lin]; grind
theorem roots_lt {p : Pol} (hp : p ≠ 0) {L : List F} (hd : L.Nodup) (h : ∀ x ∈ L, p.at' x = 0) : L.length < p.len := by
  rcases Nat.lt_or_ge L.length p.len with h1 | h1
  · exact h1
  · have := zero_coef p.len p.l L (Nat.le_refl _) hd h1 h
    rw [p.tr] at this
    exact absurd (eq_zero_of_len (by unfold len; rw [this]; rfl)) hp

/-! ### Polynomials made of roots -/
def prodL : List F → Pol
  | [] => 1
  | r :: L => lin r * prodL L
theorem one_ne_zero : (1 : Pol) ≠ 0 := fun e => by
  have : coef (1 : Pol).l 0 = coef (0 : Pol).l 0 := by rw [e]
  rw [one_l, coef_zero, coef_nought] at this
  exact one_ne this
theorem prodL_ne : ∀ L : List F, prodL L ≠ 0
  | [] => one_ne_zero
  | r :: L => mul_ne_zero (lin_ne r) (prodL_ne L)
theorem len_one : (1 : Pol).len = 1 := by unfold len; rw [one_l]; rfl
theorem len_prodL : ∀ L : List F, (prodL L).len = L.length + 1
  | [] => len_one
  | r :: L => by rw [prodL, len_mul (lin_ne r) (prodL_ne L), len_lin, len_prodL L, List.length_cons]; omega
theorem at_one (x : F) : (1 : Pol).at' x = 1 := at_con 1 x
theorem at_prodL (x : F) : ∀ L : List F, (prodL L).at' x = 0 ↔ x ∈ L
  | [] => by
    rw [prodL, at_one]
    exact ⟨fun h => absurd h one_ne, fun h => by cases h⟩
  | r :: L => by
    rw [prodL, at_mul, at_lin, mul_eq_zero', at_prodL x L, List.mem_cons]
    constructor
    · rintro (h | h)
      · exact .inl (by grind)
      · exact .inr h
    · rintro (h | h)
      · exact .inl (by rw [h]; grind)
      · exact .inr h
theorem top_lin (r : F) : (lin r).top = 1 := by
  unfold top
  rw [len_lin, coef_lin]; rfl
theorem top_prodL : ∀ L : List F, (prodL L).top = 1
  | [] => by unfold top; rw [prodL, len_one, one_l]; rfl
  | r :: L => by rw [prodL, top_mul (lin_ne r) (prodL_ne L), top_lin, top_prodL L, mul_one']
/-- With as many roots as its degree it is made of them. -/
theorem full_eq : ∀ (L : List F) (p : Pol), p ≠ 0 → p.top = 1 → L.Nodup → (∀ x ∈ L, p.at' x = 0) → p.len = L.length + 1 → p = prodL L
  | [], p, _, ht, _, _, hl => by
    refine ext fun i => ?_
    rw [prodL, one_l]
    cases i with
    | zero => rw [coef_zero]; unfold top at ht; rw [hl] at ht; exact ht
    | succ i => rw [coef_high (by rw [hl]; simp), coef_succ, coef_nil]
  | r :: L, p, hp, ht, hd, hr, hl => by
    obtain ⟨w, rfl⟩ := (root_dvd p r).1 (hr r (List.mem_cons_self ..))
    obtain ⟨h1, h2⟩ := List.nodup_cons.1 hd
    have hw : w ≠ 0 := fun e => hp (by rw [e]; grind)
    rw [top_mul hw (lin_ne r), top_lin, mul_one'] at ht
    rw [len_mul hw (lin_ne r), len_lin, List.length_cons] at hl
    have := full_eq L w hw ht h2 (fun x hx => by
      have := hr x (List.mem_cons_of_mem _ hx)
      rw [at_mul, at_lin, mul_eq_zero'] at this
      rcases this with h | h
      · exact h
      · exact absurd (show x = r by grind) (fun e => h1 (e ▸ hx))) (by omega)
    rw [prodL, ← this]; grind

/-! ### x to the power P, less x -/
theorem at_X (x : F) : X.at' x = x := by
  unfold at' X
  rw [ev_congr (coef_mk _), ev, ev, ev, mul_zero', add_zero', mul_one', zero_add']
theorem pow_zero'' (p : Pol) : p ^ 0 = 1 := rfl
theorem pow_succ'' (p : Pol) (n : Nat) : p ^ (n + 1) = p ^ n * p := rfl
theorem at_pow (p : Pol) (n : Nat) (x : F) : (p ^ n).at' x = p.at' x ^ n := by
  induction n with
  | zero => rw [pow_zero'', at_one, pow_zero']
  | succ n ih => rw [pow_succ'', at_mul, ih]; grind
theorem coef_X_mul (p : Pol) (i : Nat) : coef (p * X).l i = coef (0 :: p.l) i := by
  rw [coef_mul]
  unfold X
  rw [mulL_congr_right p.l (coef_mk _), mulL_cons_right]
  cases i with
  | zero => rw [coef_zero, coef_zero, zero_mul', add_zero']
  | succ i => rw [coef_succ, coef_succ, mulL_one, zero_mul', zero_add']
theorem coef_X_pow (n i : Nat) : coef (X ^ n).l i = if i = n then 1 else 0 := by
  induction n generalizing i with
  | zero =>
    rw [pow_zero'', one_l]
    cases i with
    | zero => rfl
    | succ i => rw [coef_succ, coef_nil, if_neg (by omega)]
  | succ n ih =>
    rw [pow_succ'', coef_X_mul]
    cases i with
    | zero => rw [coef_zero, if_neg (by omega)]
    | succ i =>
      rw [coef_succ, ih]
      by_cases h : i = n
      · rw [if_pos h, if_pos (by omega)]
      · rw [if_neg h, if_neg (by omega)]
theorem coef_X (i : Nat) : coef X.l i = if i = 1 then 1 else 0 := by
  have := coef_X_pow 1 i
  rwa [show X ^ 1 = X by rw [show (1 : Nat) = 0 + 1 from rfl, pow_succ'', pow_zero'']; grind] at this
theorem coef_xnx (n : Nat) (i : Nat) : coef (X ^ n - X).l i = (if i = n then 1 else 0) - (if i = 1 then 1 else 0) := by
  rw [show X ^ n - X = X ^ n + -X by grind, coef_add, coef_neg, coef_X_pow, coef_X]; grind
theorem len_xnx {n : Nat} (h : 2 ≤ n) : (X ^ n - X).len = n + 1 := by
  apply Nat.le_antisymm
  · refine len_le fun i hi => ?_
    rw [coef_xnx, if_neg (by omega), if_neg (by omega)]; exact sub_zero' 0
  · have : coef (X ^ n - X).l n ≠ 0 := by
      rw [coef_xnx, if_pos rfl, if_neg (by omega), sub_zero']
      exact one_ne
    exact len_ge this
theorem fermat_n (x : F) (n : Nat) (hn : n = M + 1) : x ^ n = x := by
  subst hn
  by_cases h : x = 0
  · rw [h]; exact zero_pow' _ (by omega)
  · rw [pow_add', fermat x h, pow_one', one_mul']
theorem fermat' (x : F) : x ^ Q = x := fermat_n x Q (by unfold Q M; decide)
theorem filter_split {α : Type} (l : List α) (p : α → Bool) : (l.filter p).length + (l.filter fun x => !p x).length = l.length := by
  induction l with
  | nil => rfl
  | cons a l ih =>
    cases h : p a <;> simp [h] <;> omega
theorem at_xqx (x : F) : (X ^ Q - X).at' x = 0 := by
  rw [at_sub, at_pow, at_X, fermat']; grind
/-- What divides x^P less x has all its roots, each once. -/
theorem full_of_dvd {g : Pol} (h : Dvd g (X ^ Q - X)) : ∃ L : List F, L.Nodup ∧ (∀ x, x ∈ L ↔ g.at' x = 0) ∧ g.len = L.length + 1 := by
  obtain ⟨w, hw⟩ := h
  have hq : 2 ≤ Q := by unfold Q; decide
  have hl := len_xnx hq
  have hx : X ^ Q - X ≠ 0 := fun e => by rw [e, len_zero] at hl; omega
  have hg : g ≠ 0 := fun e => hx (by rw [hw, e]; grind)
  have hw0 : w ≠ 0 := fun e => hx (by rw [hw, e]; grind)
  have hm := len_mul hw0 hg
  rw [← hw, hl] at hm
  have hgp := len_pos hg
  have hwp := len_pos hw0
  obtain ⟨f, hf⟩ : ∃ f : F → Bool, ∀ x, f x = true ↔ g.at' x = 0 := ⟨fun x => g.at' x == 0, fun x => by rw [beq_iff_eq]⟩
  have h1 : ((List.finRange Q).filter f).Nodup := all_nodup.filter _
  have h2 : ((List.finRange Q).filter fun x => !f x).Nodup := all_nodup.filter _
  have h3 := roots_lt hg h1 fun x hx => (hf x).1 (List.mem_filter.1 hx).2
  have h4 := roots_lt hw0 h2 fun x hx => by
    have e1 := (List.mem_filter.1 hx).2
    have e2 := at_xqx x
    rw [hw, at_mul, mul_eq_zero'] at e2
    rcases e2 with e2 | e2
    · exact e2
    · rw [(hf x).2 e2] at e1; cases e1
  have h5 := filter_split (α := F) (List.finRange Q) f
  have h6 : ∀ a b : Nat, a + b = Q → a < g.len → b < w.len → g.len = a + 1 := fun a b _ _ _ => by omega
  refine ⟨_, h1, fun x => ?_, h6 _ _ (h5.trans List.length_finRange) h3 h4⟩
  rw [List.mem_filter, hf]
  exact ⟨fun h => h.2, fun h => ⟨List.mem_finRange x, h⟩⟩
end Pol
end Go.Proofs.Ytokkjklggkoajaa
