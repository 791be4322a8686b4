/-
  The walk of the statement that what is put is got, and goes on as it did.
-/
import Derived.Test.YtcnhgkgabddjmaaChU
import Derived.Test.YtcnhgkgabddjmaaChLawA
namespace Go.Proofs.Ytcnhgkgabddjmaa
open Go.RowKit Go.Maps

set_option maxRecDepth 100000 in
set_option maxHeartbeats 4000000 in
theorem round_walk (ep dev : Int) (pl : Option Addr) (nl : Nat) (xl : List Int) (cl : Nat) (pm : Option Addr) (nm : Nat) (xm : List Int) (cm : Nat) (w : World) (ep0 : 0 ≤ ep) (ep1 : ep < 18446744073709551616) (dev0 : -9223372036854775808 ≤ dev) (dev1 : dev ≤ 9223372036854775807) (hL : UI w pl nl xl) (_ : nl ≤ cl) (hnL : nl ≤ 9223372036854775807) (_ : pl = none → cl = 0) (hM : UI w pm nm xm) (_ : nm ≤ cm) (hnM : nm ≤ 9223372036854775807) (_ : pm = none → cm = 0) :
    Calls Try.prog 8 #[.int .u64 ep, .int .i64 dev, .slice pl nl cl, .slice pm nm cm] w fun e w' => e = .returned (.bool true) ∧ Below w.heap.size w w' := by
  obtain ⟨d, ed, hd⟩ := around_21 dev
  obtain ⟨m, hm⟩ : ∃ m, (Ch.new ep d).acts (actsOf xl) = m := ⟨_, rfl⟩
  have fx := Ch.Fine.acts ep d xl
  rw [hm] at fx
  have hnx : m.num ≤ 1000 := fx.2
  have fm := fx.1
  clear fx
  have hk16 : (actsOf xm).length ≤ 16 := by unfold actsOf; rw [List.length_map, List.length_take]; omega
  have hall := actsOf_ok xm
  replace hm := Lib.hid hm
  replace fm := Lib.hid fm
  go_enter Try.func8, Try.ntmps8
  go_wp2_with fail
  refine (Around_any dev 21 _ dev0 dev1 (by omega) (by omega)).mono ?_
  rintro e w1 ⟨rfl, rfl⟩
  rw [ed.out]
  go_wp2_with fail
  refine (played_any ep d pl nl xl cl _ ep0 ep1 hd hL hnL m hm.out).mono ?_
  rintro e w1 ⟨c1, b1, rfl, hX, hc1, hbb1, hb⟩
  have hM1 := hM.below hb
  clear hL hM
  go_wp2_with fail
  refine (Put_any c1 b1 _ _ hX fm.out.ok (by omega)).mono ?_
  rintro e w2 ⟨p2, q2, rfl, _, h2, _, hp2, hb2, hl2⟩
  have hX2 := hX.below hb2
  have hM2 := hM1.below hb2
  have hb20 := hb.trans (hb2.mono hb.size)
  clear hX hM1 hb hb2
  go_wp2_with fail
  refine (Get_of p2 _ q2 _ _ h2 hp2 (by omega) fm.out).mono ?_
  rintro e w3 ⟨c2, b2, rfl, hY, hc2, hb2, _, hb3⟩
  have hD1 : c2 ≠ c1 ∧ c2 ≠ b1 ∧ b2 ≠ c1 ∧ b2 ≠ b1 := by have := hX2.lt; have := hX2.map.lt; omega
  have hX3 := hX2.below hb3
  have hM3 := hM2.below hb3
  have h23 := h2.below hb3
  have hc2' : w.heap.size ≤ c2 ∧ w.heap.size ≤ b2 := by have := hb20.size; omega
  have hb30 := hb20.trans (hb3.mono hb20.size)
  clear hX2 hM2 hb20 hb3 h2 hc2 hb2
  go_wp2_with fail
  refine (Put_any c2 b2 _ _ hY fm.out.ok (by omega)).mono ?_
  rintro e w4 ⟨p4, q4, rfl, _, h4, _, hp4, hb4, hl4⟩
  have hX4 := hX3.below hb4
  have hY4 := hY.below hb4
  have hM4 := hM3.below hb4
  have h24 := h23.below hb4
  have hb40 := hb30.trans (hb4.mono hb30.size)
  clear hX3 hY hM3 hb30 hb4 h23
  generalize putB m = PB at *
  go_wp2_with fail
  refine (SameBytes_yes _ _ _ _ _ _ _ h4 h24 (by omega)).mono ?_
  rintro e w5 ⟨rfl, hb5⟩
  have hX5 := hX4.below hb5
  have hY5 := hY4.below hb5
  have hM5 := hM4.below hb5
  have hb50 := hb40.trans (hb5.mono hb40.size)
  clear hX4 hY4 hM4 hb40 hb5 h4 h24
  go_wp2_with fail
  refine (Acts_any _ _ _ _ _ hM5 hnM).mono ?_
  rintro e w6 ⟨qa, k, ca, rfl, hA, hkm, hF, hb6⟩
  have hfx : ∀ a, qa = some a → (a.block ≠ c1 ∧ a.block ≠ b1) ∧ a.block ≠ c2 ∧ a.block ≠ b2 := fun a ha => by have := hF a ha; have := hX5.lt; have := hX5.map.lt; have := hY5.lt; have := hY5.map.lt; omega
  have hX6 := hX5.below hb6
  have hY6 := hY5.below hb6
  have hb60 := hb50.trans (hb6.mono hb50.size)
  have hl := hA.len
  clear hX5 hY5 hM5 hb50 hb6 hF
  generalize actsOf xm = acs at *
  replace hl := Lib.hid hl
  replace hall := Lib.hid hall
  go_wp2_with fail
  go_loopw [14] (fun i W => ∃ j : Nat, j ≤ k ∧ i = .int .i64 j ∧ ChAt W c1 b1 (m.acts (acs.take j)) ∧ ChAt W c2 b2 (m.acts (acs.take j)) ∧ Ac W qa k acs ∧ Below w.heap.size w W)
    (fun i _ => k - (intOf i).toNat)
  case atStart => exact ⟨0, by omega, rfl, hX6, hY6, hA, hb60⟩
  case round =>
    clear hX6 hY6 hA hb60
    obtain ⟨j, hj, rfl, hX, hY, hA, hb⟩ := hrel
    obtain ⟨hok, hnum⟩ := fm.out.ok.acts (acs.take j)
    have htl : (acs.take j).length ≤ 16 := by rw [List.length_take]; omega
    by_cases hlt : j < k
    · have hsn := m.acts_snoc (acs.take j) (ac acs j)
      have htk : acs.take (j + 1) = acs.take j ++ [ac acs j] := by
        have hj' : j < acs.length := by rw [hl.out]; exact hlt
        rw [List.take_succ_eq_append_getElem hj', ac_eq hj']
      rw [← htk] at hsn
      have hao := hall.out (ac acs j) (by rw [ac_eq (by rw [hl.out]; exact hlt)]; exact List.getElem_mem _)
      generalize m.acts (acs.take j) = mj at *
      obtain ⟨m', x, ky, er, he⟩ : ∃ m' x ky er, mj.act (ac acs j) = (m', x, ky, er) := ⟨_, _, _, _, rfl⟩
      rw [he] at hsn
      dsimp only at hsn
      obtain ⟨bl, ol, rfl, _, hc1', hc2''⟩ := hA.look hlt
      have hfx2 := hfx _ rfl
      replace hsn := Lib.hid hsn
      replace he := Lib.hid he
      replace hok := Lib.hid hok
      replace htk := Lib.hid htk
      have hnum2 : mj.num ≤ 1152921504606846976 := by omega
      clear htl hnum
      go_wp2_with fail
      refine (does_any c1 b1 mj (ac acs j) _ hX hok.out hnum2 hao _ _ _ _ he.out).mono ?_
      rintro e w4 ⟨rfl, hX4, hT4⟩
      have hY4 := hY.two hT4 ⟨hD1.1, hD1.2.1⟩ ⟨hD1.2.2.1, hD1.2.2.2⟩
      have hb4 := Two.below0 hb hT4 hc1 hbb1
      have hA4 := hA.two hT4 (fun a ha => (hfx a ha).1)
      clear hX hY hT4 hb hA hc1' hc2''
      obtain ⟨hc1', hc2''⟩ := hA4.cell hlt
      go_wp2_with fail
      refine (does_any c2 b2 mj (ac acs j) _ hY4 hok.out hnum2 hao _ _ _ _ he.out).mono ?_
      rintro e w5 ⟨rfl, hY5, hT5⟩
      have hX5 := hX4.two hT5 ⟨fun e => hD1.1 e.symm, fun e => hD1.2.2.1 e.symm⟩ ⟨fun e => hD1.2.1 e.symm, fun e => hD1.2.2.2 e.symm⟩
      have hb5 := Two.below0 hb4 hT5 hc2'.1 hc2'.2
      have hA5 := hA4.two hT5 (fun a ha => (hfx a ha).2)
      have t0 : (x != x) = false := bne_self_eq_false _
      have t1 : (ky != ky) = false := bne_self_eq_false _
      have t2 : (er != er) = false := bne_self_eq_false _
      clear hX4 hY4 hT5 hb4 hA4 hc1' hc2''
      go_wp2_with fail
      go_roundw
      case rel => exact ⟨j + 1, by omega, by go_num, by rw [hsn.out]; exact hX5, by rw [hsn.out]; exact hY5, hA5, hb5⟩
      case measure => simp [intOf]; omega
    · obtain rfl : j = k := by omega
      have hnum2 : (m.acts (acs.take j)).num ≤ 1152921504606846976 := by omega
      generalize m.acts (acs.take j) = mj at *
      replace hok := Lib.hid hok
      clear hnum hA
      go_wp2_with fail
      refine (Put_any c2 b2 _ _ hY hok.out hnum2).mono ?_
      rintro e w7 ⟨p7, q7, rfl, _, h7, _, hp7, hb7, hl7⟩
      have hX7 := hX.below hb7
      have hb70 := hb.trans (hb7.mono hb.size)
      clear hX hY hb hb7
      go_wp2_with fail
      refine (Put_any c1 b1 _ _ hX7 hok.out hnum2).mono ?_
      rintro e w8 ⟨p8, q8, rfl, _, h8, _, hp8, hb8, hl8⟩
      have h78 := h7.below hb8
      have hb80 := hb70.trans (hb8.mono hb70.size)
      clear hX7 hb70 hb8 h7
      generalize putB mj = PM at *
      go_wp2_with fail
      refine (SameBytes_yes _ _ _ _ _ _ _ h78 h8 (by omega)).mono ?_
      rintro e w9 ⟨rfl, hb9⟩
      have hb90 := hb80.trans (hb9.mono hb80.size)
      clear h78 h8 hb9 hb80
      go_wp2_with fail
      refine (lives_any _).mono ?_
      rintro e w10 ⟨rfl, hb10⟩
      go_wp2_with fail
      go_ret
      exact ⟨rfl, hb90.trans (hb10.mono hb90.size)⟩
end Go.Proofs.Ytcnhgkgabddjmaa
