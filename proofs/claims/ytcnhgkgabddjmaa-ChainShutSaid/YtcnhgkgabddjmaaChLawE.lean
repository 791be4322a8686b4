/-
  The walk of the statement that what is shut tells nothing any more.
-/
import Derived.Test.YtcnhgkgabddjmaaChU
import Derived.Test.YtcnhgkgabddjmaaChLawA
namespace Go.Proofs.Ytcnhgkgabddjmaa
open Go.RowKit Go.Maps

theorem shut_next (m : Ch) : m.shut.next = (m.shut, 0, 0) := by unfold Ch.next; exact if_pos (show m.shut.st = 0 from rfl)
set_option maxRecDepth 100000 in
set_option maxHeartbeats 4000000 in
theorem shut_walk (ep ot dev : Int) (pl : Option Addr) (nl : Nat) (xl : List Int) (cl : Nat) (n : Int) (w : World) (ep0 : 0 ≤ ep) (ep1 : ep < 18446744073709551616) (ot0 : 0 ≤ ot) (ot1 : ot < 18446744073709551616) (dev0 : -9223372036854775808 ≤ dev) (dev1 : dev ≤ 9223372036854775807) (hL : UI w pl nl xl) (_ : nl ≤ cl) (hnL : nl ≤ 9223372036854775807) (_ : pl = none → cl = 0) (n0 : -9223372036854775808 ≤ n) (n1 : n ≤ 9223372036854775807) :
    Calls Try.prog 10 #[.int .u64 ep, .int .u64 ot, .int .i64 dev, .slice pl nl cl, .int .i64 n] w fun e w' => e = .returned (.bool true) ∧ Below w.heap.size w w' := by
  obtain ⟨d, ed, hd⟩ := around_21 dev
  obtain ⟨mx, hmx⟩ : ∃ mx, (Ch.new ep d).acts (actsOf xl) = mx := ⟨_, rfl⟩
  obtain ⟨my, hmy⟩ : ∃ my, (Ch.new ot d).acts (actsOf xl) = my := ⟨_, rfl⟩
  have fx := Ch.Fine.acts ep d xl
  have fy := Ch.Fine.acts ot d xl
  have hsh := Shp.acts (actsOf xl) (Shp.new ep ot d)
  rw [hmx] at fx hsh
  rw [hmy] at fy hsh
  have hnx : mx.num ≤ 1000 := fx.2
  have hny : my.num ≤ 1000 := fy.2
  have hputs : putB my.shut = putB mx.shut := by
    have := hsh.num
    unfold putB Ch.shut
    rw [this]
  have zx := fine_shut mx (by omega)
  have hask : ∀ c : Ch, c.shut.ask n = (c.shut, 0, 25) := fun c => Ch.ask_zero n rfl
  have hax := hask mx
  have hnxt := shut_next mx
  have hks0 : mx.shut.ks.length = 0 := rfl
  clear hask fx fy hsh
  replace hmx := Lib.hid hmx
  replace hmy := Lib.hid hmy
  replace hputs := Lib.hid hputs
  replace zx := Lib.hid zx
  replace hax := Lib.hid hax
  replace hnxt := Lib.hid hnxt
  replace hks0 := Lib.hid hks0
  have hyn : my.shut.num ≤ 1152921504606846976 := by show my.num ≤ _; omega
  have hxn : mx.shut.num ≤ 1152921504606846976 := by show mx.num ≤ _; omega
  have hst : 0 ≤ mx.shut.st ∧ mx.shut.st < 18446744073709551616 := ⟨Int.le_refl _, by show (0 : Int) < _; decide⟩
  go_enter Try.func10, Try.ntmps10
  go_wp2_with fail
  refine (Around_any dev 21 _ dev0 dev1 (by omega) (by omega)).mono ?_
  rintro e w1 ⟨rfl, rfl⟩
  rw [ed.out]
  go_wp2_with fail
  refine (played_any ep d pl nl xl cl _ ep0 ep1 hd hL hnL mx hmx.out).mono ?_
  rintro e w1 ⟨c1, b1, rfl, hX, hc1, hbb1, hb⟩
  have hL1 := hL.below hb
  clear hL
  go_wp2_with fail
  refine (played_any ot d pl nl xl cl _ ot0 ot1 hd hL1 hnL my hmy.out).mono ?_
  rintro e w2 ⟨c2, b2, rfl, hY, hc2, hbb2, hb2⟩
  have hD1 : c2 ≠ c1 ∧ c2 ≠ b1 ∧ b2 ≠ c1 ∧ b2 ≠ b1 := by have := hX.lt; have := hX.map.lt; omega
  have hX2 := hX.below hb2
  have hb20 := hb.trans (hb2.mono hb.size)
  have hc2' : w.heap.size ≤ c2 ∧ w.heap.size ≤ b2 := by have := hb.size; omega
  clear hX hb hb2 hL1 hc2 hbb2
  go_wp2_with fail
  refine (At_any c1 b1 _ _ hX2).mono ?_
  rintro e w3 ⟨rfl, rfl⟩
  go_wp2_with fail
  refine (Shut_any c1 b1 _ _ hX2).mono ?_
  rintro e w3 ⟨rfl, hX3, hT3⟩
  have hY3 := hY.two hT3 ⟨hD1.1, hD1.2.1⟩ ⟨hD1.2.2.1, hD1.2.2.2⟩
  have hb3 := Two.below0 hb20 hT3 hc1 hbb1
  clear hX2 hY hT3 hb20
  go_wp2_with fail
  refine (Shut_any c2 b2 _ _ hY3).mono ?_
  rintro e w4 ⟨rfl, hY4, hT4⟩
  have hX4 := hX3.two hT4 ⟨fun e => hD1.1 e.symm, fun e => hD1.2.2.1 e.symm⟩ ⟨fun e => hD1.2.1 e.symm, fun e => hD1.2.2.2 e.symm⟩
  have hb4 := Two.below0 hb3 hT4 hc2'.1 hc2'.2
  clear hX3 hY3 hT4 hb3
  go_wp2_with fail
  refine (Key_as c1 b1 _ n _ hX4 hxn zx.out.ok n0 n1 _ _ _ hax.out).mono ?_
  rintro e w5 ⟨rfl, hX5, hT5⟩
  have hY5 := hY4.two hT5 ⟨hD1.1, hD1.2.1⟩ ⟨hD1.2.2.1, hD1.2.2.2⟩
  have hb5 := Two.below0 hb4 hT5 hc1 hbb1
  clear hX4 hY4 hT5 hb4
  go_wp2_with fail
  refine (Next_as c1 b1 _ _ hX5 (by omega) hst.1 hst.2 _ _ _ hnxt.out).mono ?_
  rintro e w6 ⟨rfl, hX6, hT6⟩
  have hY6 := hY5.two hT6 ⟨hD1.1, hD1.2.1⟩ ⟨hD1.2.2.1, hD1.2.2.2⟩
  have hb6 := Two.below0 hb5 hT6 hc1 hbb1
  clear hX5 hY5 hT6 hb5
  go_wp2_with fail
  refine (Put_any c1 b1 _ _ hX6 zx.out.ok hxn).mono ?_
  rintro e w7 ⟨p7, q7, rfl, _, h7, _, hp7, hb7, hl7⟩
  have hX7 := hX6.below hb7
  have hY7 := hY6.below hb7
  have hb70 := hb6.trans (hb7.mono hb6.size)
  clear hX6 hY6 hb7 hb6
  go_wp2_with fail
  refine (Get_of p7 _ q7 _ _ h7 hp7 (by omega) zx.out).mono ?_
  rintro e w8 ⟨c3, b3, rfl, hZ, hc3, hb3, _, hb8⟩
  have hD3 : (c1 ≠ c3 ∧ c1 ≠ b3 ∧ b1 ≠ c3 ∧ b1 ≠ b3) ∧ (c2 ≠ c3 ∧ c2 ≠ b3 ∧ b2 ≠ c3 ∧ b2 ≠ b3) := by have := hX7.lt; have := hX7.map.lt; have := hY7.lt; have := hY7.map.lt; omega
  have hX8 := hX7.below hb8
  have hY8 := hY7.below hb8
  have hb80 := hb70.trans (hb8.mono hb70.size)
  have hc3' : w.heap.size ≤ c3 ∧ w.heap.size ≤ b3 := by have := hb70.size; omega
  clear hX7 hY7 hb70 hb8 h7 hc3 hb3
  go_wp2_with fail
  refine (Key_as c3 b3 _ n _ hZ hxn zx.out.ok n0 n1 _ _ _ hax.out).mono ?_
  rintro e w9 ⟨rfl, _, hT9⟩
  have hX9 := hX8.two hT9 ⟨hD3.1.1, hD3.1.2.1⟩ ⟨hD3.1.2.2.1, hD3.1.2.2.2⟩
  have hY9 := hY8.two hT9 ⟨hD3.2.1, hD3.2.2.1⟩ ⟨hD3.2.2.2.1, hD3.2.2.2.2⟩
  have hb9 := Two.below0 hb80 hT9 hc3'.1 hc3'.2
  clear hX8 hY8 hT9 hb80 hZ
  go_wp2_with fail
  refine (At_any c1 b1 _ _ hX9).mono ?_
  rintro e w10 ⟨rfl, rfl⟩
  have tn : ((mx.shut.num : Int) == (mx.num : Int)) = true := beq_self_eq_true _
  go_wp2_with fail
  refine (Kept_any c1 b1 _ _ hX9 zx.out.ok hxn).mono ?_
  rintro e w10 ⟨p10, q10, rfl, _, _, hb10⟩
  rw [hks0.out]
  have hX10 := hX9.below hb10
  have hY10 := hY9.below hb10
  have hb100 := hb9.trans (hb10.mono hb9.size)
  clear hX9 hY9 hb10 hb9 tn
  go_wp2_with fail
  refine (Put_any c1 b1 _ _ hX10 zx.out.ok hxn).mono ?_
  rintro e w11 ⟨p11, q11, rfl, _, h11, _, hp11, hb11, hl11⟩
  have hY11 := hY10.below hb11
  have hb110 := hb100.trans (hb11.mono hb100.size)
  clear hX10 hY10 hb11 hb100
  go_wp2_with fail
  refine (Put_any c2 b2 _ _ hY11 (Ch.Ok.shut my) hyn).mono ?_
  rintro e w12 ⟨p12, q12, rfl, _, h12, _, hp12, hb12, hl12⟩
  rw [hputs.out] at h12 ⊢
  have h112 := h11.below hb12
  have hb120 := hb110.trans (hb12.mono hb110.size)
  clear hY11 hb12 hb110 h11
  generalize putB mx.shut = PB at *
  go_wp2_with fail
  refine (SameBytes_yes _ _ _ _ _ _ _ h112 h12 (by omega)).mono ?_
  rintro e w13 ⟨rfl, hb13⟩
  have hb130 := hb120.trans (hb13.mono hb120.size)
  clear h112 h12 hb13 hb120
  go_wp2_with fail
  refine (lives_any _).mono ?_
  rintro e w14 ⟨rfl, hb14⟩
  go_wp2_with fail
  go_ret
  exact ⟨rfl, hb130.trans (hb14.mono hb130.size)⟩
end Go.Proofs.Ytcnhgkgabddjmaa
