/-
  The contracts of the program's polynomials (7): as polynomials; 1 ahead; the greatest common divisor; of roots.
-/
import Derived.Test.YtelnhpcehmdffaaPolyF
namespace Go.Proofs.Ytelnhpcehmdffaa
open Go.RowKit
attribute [local go_sem] T_V

theorem ps_of_fs {w : World} {v : Value} {P : Pol} (h : Fs w v P.l) : Ps w v P := by
  obtain ⟨p, n, c, rfl, hc, hU⟩ := h
  have hn : n = P.len := by have := hU.len; rw [List.length_map] at this; exact this.symm
  subst hn
  exact ⟨p, c, rfl, hc, hU⟩
/-- The polynomial of a row of numbers. -/
def pol (xs : List Int) : Pol := Pol.mk' (xs.map T)
theorem pol_V (P : Pol) : pol (P.l.map V) = P := by unfold pol; rw [map_TV]; exact Pol.mk_l P
theorem pol_len (xs : List Int) : (pol xs).len ≤ xs.length := by
  have := trimF_length (xs.map T)
  rwa [List.length_map] at this
theorem TrimG (p : Option Addr) (n : Nat) (xs : List Int) (c : Nat) (w : World) (hU : U w p n xs) (hl : n ≤ 35184372088832) :
    Calls Try.prog 47 #[.slice p n c] w fun e w' => ∃ v, e = .returned v ∧ Ps w' v (pol xs) ∧ Below w.heap.size w w' :=
  (Trim_any p n xs c w hU hl).mono fun _ _ ⟨v, he, hv, hb⟩ => ⟨v, he, ps_of_fs hv, hb⟩
theorem MulG (p q : Option Addr) (n m : Nat) (xs ys : List Int) (c d : Nat) (w : World) (hX : U w p n xs) (hY : U w q m ys) (hn : n ≤ 17592186044416) (hm : m ≤ 17592186044416) :
    Calls Try.prog 72 #[.slice p n c, .slice q m d] w fun e w' => ∃ v, e = .returned v ∧ Ps w' v (pol xs * pol ys) ∧ Below w.heap.size w w' :=
  (Mul_any p q n m xs ys c d w hX hY hn hm).mono fun _ _ ⟨v, he, hv, hb⟩ => ⟨v, he, ps_of_fs hv, hb⟩
theorem AddG (p q : Option Addr) (n m : Nat) (xs ys : List Int) (c d : Nat) (w : World) (hX : U w p n xs) (hY : U w q m ys) (hn : n ≤ 35184372088832) (hm : m ≤ 35184372088832) :
    Calls Try.prog 63 #[.slice p n c, .slice q m d] w fun e w' => ∃ v, e = .returned v ∧ Ps w' v (pol xs + pol ys) ∧ Below w.heap.size w w' :=
  (Add_any p q n m xs ys c d w hX hY hn hm).mono fun _ _ ⟨v, he, hv, hb⟩ => ⟨v, he, ps_of_fs (P := pol xs + pol ys) (by
    show Fs _ v (trimF (addL (trimF (xs.map T)) (trimF (ys.map T))))
    rw [trimF_add_trim]; exact hv), hb⟩
theorem DivModG (p q : Option Addr) (n m : Nat) (xs ys : List Int) (c d : Nat) (w : World) (hX : U w p n xs) (hY : U w q m ys) (hn : n ≤ 17592186044416) (hm : m ≤ 17592186044416) :
    Calls Try.prog 31 #[.slice p n c, .slice q m d] w fun e w' => ∃ v1 v2 Q R, e = .returned (.tuple #[v1, v2]) ∧ (Ps w' v1 Q ∧ Fresh v1 w.heap.size) ∧ (Ps w' v2 R ∧ Fresh v2 w.heap.size) ∧ Pol.DivIs (pol xs) (pol ys) Q R ∧ Below w.heap.size w w' :=
  DivMod_any p q n m xs ys c d w hX hY hn hm

theorem trimF_smul {c : F} (hc : c ≠ 0) : ∀ {l : List F}, trimF l = l → trimF (l.map (c * ·)) = l.map (c * ·)
  | [], _ => rfl
  | a :: l, h => by
    rw [trimF] at h
    by_cases h1 : trimF l = [] ∧ a = 0
    · rw [if_pos h1] at h; cases h
    · rw [if_neg h1] at h
      injection h with _ h
      have ih := trimF_smul hc h
      rw [List.map_cons, trimF, ih]
      rw [if_neg ?_]
      rintro ⟨h2, h3⟩
      refine h1 ⟨?_, ?_⟩
      · rw [h]; exact List.map_eq_nil_iff.1 h2
      · rcases (mul_eq_zero' c a).1 h3 with h4 | h4
        · exact absurd h4 hc
        · exact h4
theorem scale_l {P : Pol} {c : F} (hc : c ≠ 0) : (Pol.scale P c).l = P.l.map (c * ·) := by
  have e : Pol.scale P c = Pol.mk' (P.l.map (c * ·)) := Pol.ext fun i => by rw [Pol.coef_scale, Pol.coef_mk, coef_smul]
  rw [e]
  exact trimF_smul hc P.tr
theorem monic_l {P : Pol} (h : P ≠ 0) : (Pol.monic P).l = P.l.map (inv P.top * ·) := scale_l (inv_ne _ (Pol.top_ne h))

set_option maxRecDepth 100000 in
theorem monic1_any (i x : Int) (b : Nat) (y : F) (w : World) (hc : w.cell? ⟨b, 0, none⟩ = some (.int .u64 (V y))) (hx0 : 0 ≤ x) (hx1 : x < 18446744073709551616) :
    Calls Try.prog 62 #[.int .i64 i, .int .u64 x, .pointer (some ⟨b, 0, none⟩)] w fun e w' => e = .returned (.int .u64 (V (T x * y))) ∧ w = w' := by
  go_enter Try.func62, Try.ntmps62
  go_wp2_with (go_at_call 22; refine (mul_any _ _ _ hx0 hx1 (V_lo _) (V_64 _)).mono ?_; rintro e w' ⟨rfl, rfl⟩)
  go_ret
  exact ⟨rfl, rfl⟩

theorem monic_each (p : Option Addr) (n : Nat) (xs : List Int) (c : Nat) (y : F) (w : World) (hX : U w p n xs) (hn : n ≤ 35184372088832) :
    Calls Try.prog 60 #[.slice p n c, .func (.func 62) #[] #[.pointer (some ⟨w.heap.size, 0, none⟩)]] (w.alloc (.cells #[.int .u64 (V y)] 40)) fun e w' =>
      e = .returned (.slice (some ⟨w.heap.size + 1, 0, none⟩) n n) ∧ Arr w' (w.heap.size + 1) 40 (arrF n (coef (eachF (fun _ x => T x * y) xs))) ∧ Below w.heap.size w w' := by
  have hb0 : Below w.heap.size w (w.alloc (.cells #[.int .u64 (V y)] 40)) := (Below.refl _ _).alloc (Nat.le_refl _) _
  have hX1 := hX.below hb0
  have hc1 : (w.alloc (.cells #[.int .u64 (V y)] 40)).cell? ⟨w.heap.size, 0, none⟩ = some (.int .u64 (V y)) := (Arr.new w 40 [.int .u64 (V y)]).cell (by simp)
  refine (each_own 62 #[.pointer (some ⟨w.heap.size, 0, none⟩)] (fun _ x => T x * y) p n xs c _ hX1 hn (enters_of Try.func62 (by kernel_rfl) rfl)
    (fun i w1 hi hb => by
      have hx := hX1.look_bd hi
      rw [show #[Value.int .i64 i, Value.int .u64 (nth xs i)] ++ #[Value.pointer (some ⟨w.heap.size, 0, none⟩)] = #[Value.int .i64 i, Value.int .u64 (nth xs i), Value.pointer (some ⟨w.heap.size, 0, none⟩)] from rfl]
      have h := monic1_any i (nth xs i) w.heap.size y w1 ((hb.cell (p := ⟨w.heap.size, 0, none⟩) (by simp)).trans hc1) hx.1 hx.2
      exact h.mono fun _ _ ⟨he, hw⟩ => ⟨he, hw ▸ Below.refl _ _⟩)).mono ?_
  rintro e w' ⟨rfl, ha, hb⟩
  have hs : (w.alloc (.cells #[.int .u64 (V y)] 40)).heap.size = w.heap.size + 1 := by simp
  rw [hs] at ha ⊢
  exact ⟨rfl, ha, hb0.trans (hb.mono (by simp))⟩
theorem each_times (y : F) (l : List F) : eachF (fun _ x => T x * y) (l.map V) = l.map (y * ·) := by
  rw [eachF_map, List.map_map]
  apply List.map_congr_left
  intro x _
  show T (V x) * y = y * x
  rw [T_V]; grind
theorem each_monic {P : Pol} (h : P ≠ 0) : eachF (fun _ x => T x * inv P.top) (P.l.map V) = (Pol.monic P).l := (each_times _ _).trans (monic_l h).symm

set_option maxRecDepth 100000 in
theorem monic_any (p : Option Addr) (c : Nat) (P : Pol) (w : World) (hU : U w p P.len (P.l.map V)) (hl : P.len ≤ 35184372088832) :
    Calls Try.prog 48 #[.slice p P.len c] w fun e w' => ∃ v, e = .returned v ∧ Ps w' v (Pol.monic P) ∧ Fresh v w.heap.size ∧ Below w.heap.size w w' := by
  obtain ⟨n, hn⟩ : ∃ n, Hid (P.len = n) := ⟨_, Lib.hid rfl⟩
  rw [hn.out] at hU hl ⊢
  by_cases h0 : n = 0
  · have h0' : ((n : Int) == 0) = true := by rw [beq_iff_eq]; omega
    have hm : Hid (Pol.monic P = 0) := Lib.hid (by rw [Pol.eq_zero_of_len (hn.out.trans h0)]; exact Pol.monic_zero)
    clear h0
    go_enter Try.func48, Try.ntmps48
    go_wp2_with fail
    go_ret
    exact ⟨_, rfl, by rw [hm.out]; exact Ps.nil _, Fresh.nil _ _ _, Below.refl _ _⟩
  · have h0' : ((n : Int) == 0) = false := by rw [beq_eq_false_iff_ne]; omega
    have hP : Hid (P ≠ 0) := Lib.hid fun e => h0 (by rw [← hn.out, e, Pol.len_zero])
    have hn0 : 0 < n := by omega
    obtain ⟨b, off, rfl, hbb, hcell, _, _⟩ := hU.look (i := n - 1) (by omega)
    have htop : Hid (nth (P.l.map V) (n - 1) = V P.top) := Lib.hid (by
      have hlt : n - 1 < P.l.length := by have := hn.out; unfold Pol.len at this; omega
      rw [nth_V hlt]
      unfold Pol.top
      rw [hn.out, coef_lt hlt])
    rw [htop.out] at hcell
    clear h0
    go_enter Try.func48, Try.ntmps48
    go_wp2_with fail
    refine (inv_b (Below.refl _ _) _ (V_lo _) (V_64 _)).mono ?_
    rintro e w1 ⟨rfl, hb1⟩
    go_wp2_with fail
    refine (monic_each _ n (P.l.map V) c (inv P.top) _ (hU.below hb1) hl).mono ?_
    rintro e w2 ⟨rfl, ha, hb2⟩
    have hml : Hid ((Pol.monic P).l.length = n) := Lib.hid (by rw [monic_l hP.out, List.length_map]; exact hn.out)
    rw [each_monic hP.out] at ha
    have hfin : Hid (Ps w2 (.slice (some ⟨w1.heap.size + 1, 0, none⟩) n n) (Pol.monic P)) := Lib.hid (by
      have h := arrF_fs ha (Nat.le_refl n)
      have e1 : (List.range n).map (coef (Pol.monic P).l) = (Pol.monic P).l := by
        apply ext_coef
        · simp [hml.out]
        · intro i
          rw [coef_range]
          by_cases hi : i < n
          · rw [if_pos hi]
          · rw [if_neg hi, coef_ge (by rw [hml.out]; omega)]
      rw [e1] at h
      have e2 : (Pol.monic P).len = n := hml.out
      exact ⟨_, n, by rw [e2], by rw [e2]; exact Nat.le_refl _, by rw [e2]; exact h⟩)
    have hs1 := hb1.size
    go_wp2_with fail
    go_ret
    exact ⟨_, rfl, hfin.out, Fresh.of (by omega), hb1.trans (hb2.mono hb1.size)⟩

/-- The polynomials that Euclid's goes through. -/
def GcdTo (A B P Q : Pol) : Prop := ∀ g, Pol.GcdOk P Q g → Pol.GcdOk A B g

set_option maxRecDepth 100000 in
theorem Gcd_any (p q : Option Addr) (n m : Nat) (xs ys : List Int) (c d : Nat) (w : World) (hX : U w p n xs) (hY : U w q m ys) (hn : n ≤ 17592186044416) (hm : m ≤ 17592186044416) :
    Calls Try.prog 30 #[.slice p n c, .slice q m d] w fun e w' => ∃ v G, e = .returned v ∧ Ps w' v G ∧ Fresh v w.heap.size ∧ Pol.GcdOk (pol xs) (pol ys) G ∧ Below w.heap.size w w' := by
  have hl1 : (pol xs).len ≤ 17592186044416 := by have := pol_len xs; rw [hX.len] at this; omega
  have hl2 : (pol ys).len ≤ 17592186044416 := by have := pol_len ys; rw [hY.len] at this; omega
  go_enter Try.func30, Try.ntmps30
  go_wp2_with fail
  refine (TrimG p n xs c _ hX (by omega)).mono ?_
  rintro e w1 ⟨v1, rfl, hP, hb1⟩
  go_wp2_with fail
  refine (TrimG q m ys d _ (hY.below hb1) (by omega)).mono ?_
  rintro e w2 ⟨v2, rfl, hQ, hb2⟩
  have hb12 := hb1.trans (hb2.mono hb1.size)
  have hP2 := hP.below hb2
  have hto : Hid (GcdTo (pol xs) (pol ys) (pol xs) (pol ys)) := Lib.hid fun g h => h
  clear hP
  go_wp2_with fail
  go_loopw [0, 1] (fun av bv wr => ∃ P Q : Pol, Ps wr av P ∧ Ps wr bv Q ∧ P.len ≤ 17592186044416 ∧ Q.len ≤ 17592186044416 ∧ Hid (GcdTo (pol xs) (pol ys) P Q) ∧ Below w.heap.size w wr)
    (fun _ bv _ => match bv with | .slice _ k _ => k | _ => 0)
  case atStart => exact ⟨_, _, hP2, hQ, hl1, hl2, hto, hb12⟩
  case round =>
    clear hP2 hQ hb12 hl1 hl2 hto
    obtain ⟨P, Q, ⟨pp, cp, rfl, hcp, hUP⟩, ⟨pq, cq, rfl, hcq, hUQ⟩, hlp, hlq, hto, hb⟩ := hrel
    by_cases h0 : 0 < Q.len
    · go_wp2_with fail
      refine (DivModG pp pq P.len Q.len (P.l.map V) (Q.l.map V) cp cq _ hUP hUQ hlp hlq).mono ?_
      rintro e w3 ⟨q1, r1, Q', R, rfl, _, ⟨⟨pr, cr, rfl, hcr, hUR⟩, _⟩, hdiv, hb3⟩
      rw [pol_V, pol_V] at hdiv
      have hQ0 : Q ≠ 0 := fun e => by rw [e, Pol.len_zero] at h0; omega
      have hdv : Pol.DivOk P Q Q' R := hdiv.resolve_left (fun h => hQ0 h.1) |>.2
      have hless := hdv.less
      have hto2 : Hid (GcdTo (pol xs) (pol ys) Q R) := Lib.hid fun g h => hto.out g ((Pol.gcd_step hdv).1 h)
      have hUQ3 := hUQ.below hb3
      clear hdiv hdv hQ0 hto
      go_wp2
      go_roundw
      case rel => exact ⟨Q, R, ⟨pq, cq, rfl, hcq, hUQ3⟩, ⟨pr, cr, rfl, hcr, hUR⟩, hlq, by omega, hto2, hb.trans (hb3.mono hb.size)⟩
      case measure => exact hless
    · have hQ0 : Hid (Q = 0) := Lib.hid (Pol.eq_zero_of_len (by omega))
      go_wp2_with fail
      refine (monic_any pp cp P _ hUP (by omega)).mono ?_
      rintro e w3 ⟨v, rfl, hv, hfr, hb3⟩
      have hfr2 := hfr.mono hb.size
      have hfin : Hid (Pol.GcdOk (pol xs) (pol ys) (Pol.monic P)) := Lib.hid (hto.out _ (by rw [hQ0.out]; exact Pol.gcd_end))
      go_wp2_with fail
      go_ret
      exact ⟨v, _, rfl, hv, hfr2, hfin.out, hb.trans (hb3.mono hb.size)⟩
end Go.Proofs.Ytelnhpcehmdffaa
