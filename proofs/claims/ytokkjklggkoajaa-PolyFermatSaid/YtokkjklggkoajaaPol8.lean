/-
  Plain facts on polynomials (8): what a polynomial has in common with x^P less x.
-/
import Derived.Test.YtokkjklggkoajaaPolyN
namespace Go.Proofs.Ytokkjklggkoajaa
namespace Pol

/-- x to the power 2^k, modulo a polynomial. -/
def CgN (A : Pol) (k : Nat) (P : Pol) : Prop := Cong A (X ^ (2 ^ k)) P
theorem CgN.start (A : Pol) : CgN A 0 (pol [0, 1]) := by
  unfold CgN
  rw [pol_X]
  refine ⟨0, ?_⟩
  show X ^ 1 - X = _
  grind
theorem CgN.step {A P Q R : Pol} {k : Nat} (hA : A ≠ 0) (h : CgN A k P) (hd : DivIs (P * P) A Q R) : CgN A (k + 1) R := by
  unfold CgN at h ⊢
  rw [Nat.pow_succ, Nat.mul_comm, pow_two_mul, mul_pow_self]
  exact (h.mul h).trans (hd.resolve_left fun e => hA e.1).2.cong
where
  mul_pow_self {A : Pol} {n : Nat} : (A * A) ^ n = A ^ n * A ^ n := by
    rw [← pow_two_mul, show 2 * n = n + n by omega, pow_add'']
/-- x^(P + 1) less x^2, modulo a polynomial. -/
def CgL (A L : Pol) : Prop := Cong A (X ^ (Q + 1) - X * X) L
theorem pol_less2 : pol [0, 0, 2305843009213693950] = -(X * X) := by
  have e : T 2305843009213693950 = -1 := by decide +kernel
  refine ext fun i => ?_
  unfold pol
  rw [coef_mk, List.map_cons, List.map_cons, List.map_cons, List.map_nil, e, T_zero, coef_neg, coef_X_mul]
  rcases i with _ | i
  · rw [coef_zero, coef_zero]; exact neg_nought.symm
  · rw [coef_succ, coef_succ, coef_X]
    rcases i with _ | _ | i
    · rw [coef_zero, if_neg (by omega)]; exact neg_nought.symm
    · rw [coef_succ, coef_zero, if_pos rfl]
    · rw [coef_succ, coef_succ, coef_nil, if_neg (by omega)]; exact neg_nought.symm
theorem two61 : (2 : Nat) ^ 61 = Q + 1 := by unfold Q; decide +kernel
theorem CgN.less {A P Q0 L : Pol} (hA : A ≠ 0) (h : CgN A 61 P) (hd : DivIs (P + pol [0, 0, 2305843009213693950]) A Q0 L) : CgL A L := by
  have h1 := (hd.resolve_left fun e => hA e.1).2.cong
  unfold CgN at h
  unfold CgL
  rw [two61] at h
  rw [pol_less2] at h1
  refine Cong.trans ?_ h1
  obtain ⟨w, hw⟩ := h
  refine ⟨w, ?_⟩
  rw [← hw]; grind
theorem coef_shift (G : Pol) (k i : Nat) : coef (mk' (G.l.drop k)).l i = coef G.l (k + i) := by
  rw [coef_mk]
  unfold coef
  simp [List.getD]
theorem shift_eq {G : Pol} {k : Nat} (h : ∀ j, j < k → coef G.l j = 0) : G = mk' (G.l.drop k) * X ^ k := ext fun i => by
  rw [coef_X_pow_mul]
  by_cases hi : k ≤ i
  · rw [if_pos hi, coef_shift, show k + (i - k) = i by omega]
  · rw [if_neg hi, h i (by omega)]
theorem at_nought (P : Pol) : P.at' 0 = coef P.l 0 := by
  unfold at'
  cases P.l with
  | nil => rw [ev, coef_nil]
  | cons a l => rw [ev, coef_zero, zero_mul', add_zero']
theorem X_lin : lin 0 = X := by rw [lin_eq, con_zero]; grind
theorem X_ne : X ≠ 0 := by rw [← X_lin]; exact lin_ne 0
theorem cong_at' {A L : Pol} (hc : Cong A (X ^ (Q + 1) - X * X) L) {x : F} (hx : A.at' x = 0) : L.at' x = 0 := by
  rw [← cong_at hc hx, at_sub, at_mul, at_X, pow_succ'', at_mul, at_pow, at_X, fermat']
  grind
theorem fermat_count {A L G : Pol} {rs : List F} {k : Nat} (hA : A ≠ 0) (hc : Cong A (X ^ (Q + 1) - X * X) L) (hg : GcdOk L A G) (hr : RootsOk A rs) (hk : ∀ j, j < k → coef G.l j = 0) (hk2 : coef G.l k ≠ 0) :
    G.len - k - 1 = (rs.filter fun x => x != 0).length ∧ (0 < k ↔ 0 ∈ rs) := by
  have hGr : ∀ x, G.at' x = 0 ↔ A.at' x = 0 := fun x => (gcd_root hg x).trans ⟨fun h => h.2, fun h => ⟨cong_at' hc h, h⟩⟩
  have h0 : 0 < k ↔ 0 ∈ rs := by
    rw [hr.2.2 hA, ← hGr, at_nought]
    refine ⟨fun h => hk 0 h, fun h => ?_⟩
    rcases Nat.eq_zero_or_pos k with e | e
    · rw [e] at hk2; exact absurd h hk2
    · exact e
  refine ⟨?_, h0⟩
  have eG := shift_eq hk
  obtain ⟨H, hH⟩ : ∃ H, H = mk' (G.l.drop k) := ⟨_, rfl⟩
  rw [← hH] at eG
  have hH0 : H.at' 0 ≠ 0 := by rw [at_nought, hH, coef_shift, Nat.add_zero]; exact hk2
  have hHn : H ≠ 0 := fun e => hH0 (by rw [e, at_zero])
  have hlk := len_ge hk2
  have hHl : H.len = G.len - k := by
    have h1 : H.len ≤ G.len - k := len_le fun i hi => by rw [hH, coef_shift, coef_high (by omega)]
    have hGn : G ≠ 0 := fun e => by rw [e, coef_nought] at hk2; exact hk2 rfl
    have h2 : G.len - k - 1 < H.len := len_ge (by
      rw [hH, coef_shift, show k + (G.len - k - 1) = G.len - 1 by omega]
      exact top_ne hGn)
    omega
  have hGd : Dvd G (X * (X ^ Q - X)) := by
    obtain ⟨u, hu⟩ := hc
    obtain ⟨a, ha⟩ := hg.left
    obtain ⟨b, hb⟩ := hg.right
    refine ⟨u * b + a, ?_⟩
    have e1 : X * (X ^ Q - X) = X ^ (Q + 1) - X * X := by rw [pow_succ'']; grind
    rw [e1]
    have e2 : X ^ (Q + 1) - X * X = u * A + L := by rw [← hu]; grind
    rw [e2, hb, ha]
    have e3 : ∀ c : Pol, u * (b * c) + a * c = (u * b + a) * c := fun c => by grind
    have e4 : u * (b * G) + a * G = (u * b + a) * G := e3 G
    rw [← hb, ← ha]
    rw [← hb, ← ha] at e4
    exact e4
  have hHd : Dvd H (X ^ Q - X) := by
    obtain ⟨u, hu⟩ := hGd
    have e0 : ∀ Z : Pol, u * (H * Z) = (u * Z) * H := fun Z => by grind
    have e1 : X * (X ^ Q - X) = (u * X ^ k) * H := by rw [hu, ← e0, ← eG]
    obtain ⟨w, hw⟩ : ∃ w, w = u * X ^ k := ⟨_, rfl⟩
    rw [← hw] at e1
    have hw0 : w.at' 0 = 0 := by
      have := congrArg (fun p => at' p 0) e1
      simp only [at_mul, at_X, zero_mul'] at this
      rcases (mul_eq_zero' _ _).1 this.symm with h | h
      · exact h
      · exact absurd h hH0
    obtain ⟨w', hw'⟩ := (root_dvd w 0).1 hw0
    rw [X_lin] at hw'
    refine ⟨w', mul_cancel X_ne ?_⟩
    rw [hw'] at e1
    generalize X ^ Q - X = Z at *
    have : Z * X = X * Z := by grind
    rw [this, e1]; grind
  obtain ⟨M, m1, m2, m3⟩ := full_of_dvd hHd
  have hp : M.Perm (rs.filter fun x => x != 0) := by
    refine (List.perm_ext_iff_of_nodup m1 (hr.1.nodup.filter _)).2 fun x => ?_
    rw [m2, List.mem_filter, hr.2.2 hA, ← hGr, bne_iff_ne]
    have e : G.at' x = H.at' x * x ^ k := by
      have := congrArg (fun p => at' p x) eG
      simpa only [at_mul, at_pow, at_X] using this
    rw [e, mul_eq_zero']
    refine ⟨fun h => ⟨.inl h, fun h' => hH0 (by subst h'; exact h)⟩, fun ⟨h, h'⟩ => h.resolve_right fun e0 => ?_⟩
    exact pow_ne_zero' h' e0
  have := hp.length_eq
  omega
where
  pow_ne_zero' {x : F} (hx : x ≠ 0) {k : Nat} : x ^ k ≠ 0 := by
    induction k with
    | zero => rw [pow_zero']; exact one_ne
    | succ k ih =>
      have e : x ^ (k + 1) = x ^ k * x := by grind
      rw [e]; exact mul_ne _ _ ih hx
end Pol
end Go.Proofs.Ytokkjklggkoajaa
