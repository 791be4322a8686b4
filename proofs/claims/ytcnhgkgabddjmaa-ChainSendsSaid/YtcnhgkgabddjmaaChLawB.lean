/-
  The walk of the statement that who sends tells the same keys as who is asked.
-/
import Derived.Test.YtcnhgkgabddjmaaChK
import Derived.Test.YtcnhgkgabddjmaaChLawA
namespace Go.Proofs.Ytcnhgkgabddjmaa
open Go.RowKit Go.Maps

theorem send_ask {s : Int} (h : s ≠ 0) (n : Nat) : (sendN s n).ask n = (sendN s (n + 1), keyN s n, 0) := by
  have h1 : ((n : Int) - ((sendN s n).num : Int)).toNat = 0 := by show ((n : Int) - (n : Int)).toNat = 0; omega
  rw [Ch.ask_ok (show (sendN s n).st ≠ 0 from stN_ne h n) rfl (by show ¬ (n : Int) < (n : Int); omega) (by show ¬ (50 : Int) - (([] : List (Int × Int)).length : Int) < (n : Int) - (n : Int); simp), h1]
  rfl
set_option maxRecDepth 100000 in
set_option maxHeartbeats 4000000 in
theorem sends_walk (ep dev many : Int) (w : World) (ep0 : 0 ≤ ep) (ep1 : ep < 18446744073709551616) (dev0 : -9223372036854775808 ≤ dev) (dev1 : dev ≤ 9223372036854775807) (many0 : -9223372036854775808 ≤ many) (many1 : many ≤ 9223372036854775807) :
    Calls Try.prog 6 #[.int .u64 ep, .int .i64 dev, .int .i64 many] w fun e w' => e = .returned (.bool true) ∧ Below w.heap.size w w' := by
  obtain ⟨d, ed, hd⟩ := around_21 dev
  obtain ⟨M, eM, hM⟩ : ∃ M : Nat, Hid (around many 41 = (M : Int)) ∧ M ≤ 40 := by
    obtain ⟨h0, h1⟩ := around_bd many 41 (by omega)
    exact ⟨(around many 41).toNat, Lib.hid (by omega), by omega⟩
  obtain ⟨m, hm⟩ : ∃ m, Hid (Ch.new ep d = m) := ⟨_, Lib.hid rfl⟩
  have hs1 : 1 ≤ m.st ∧ m.st ≤ 2305843009213693949 := by rw [← hm.out]; exact secI_bd _ _
  have hsn : m = sendN m.st 0 := by rw [← hm.out]; rfl
  obtain ⟨s, es⟩ : ∃ s, m.st = s := ⟨_, rfl⟩
  rw [es] at hs1 hsn
  subst hsn
  have hs0 : s ≠ 0 := by omega
  replace hs0 := Lib.hid hs0
  replace es := Lib.hid es
  go_enter Try.func6, Try.ntmps6
  go_wp2_with fail
  refine (Around_any dev 21 _ dev0 dev1 (by omega) (by omega)).mono ?_
  rintro e w1 ⟨rfl, rfl⟩
  rw [ed.out]
  go_wp2_with fail
  refine (New_as ep d _ ep0 ep1 hd _ hm.out).mono ?_
  rintro e w1 ⟨c1, b1, rfl, hC1, hc1, hbb1, hb1⟩
  go_wp2_with fail
  refine (New_as ep d _ ep0 ep1 hd _ hm.out).mono ?_
  rintro e w2 ⟨c2, b2, rfl, hC2, hc2, hbb2, hb2⟩
  have hD1 : c2 ≠ c1 ∧ c2 ≠ b1 ∧ b2 ≠ c1 ∧ b2 ≠ b1 := by have := hC1.lt; have := hC1.map.lt; omega
  have hC12 := hC1.below hb2
  have hb20 := hb1.trans (hb2.mono hb1.size)
  have hc2' : w.heap.size ≤ c2 ∧ w.heap.size ≤ b2 := by have := hb1.size; omega
  clear hC1 hb1 hb2 hc2 hbb2
  go_wp2_with fail
  go_loopw [10] (fun i wr => ∃ k : Nat, k ≤ M ∧ i = .int .i64 k ∧ ChAt wr c1 b1 (sendN s k) ∧ ChAt wr c2 b2 (sendN s k) ∧ Below w.heap.size w wr)
    (fun i _ => M - (intOf i).toNat)
  case atStart => exact ⟨0, by omega, rfl, hC12, hC2, hb20⟩
  case round =>
    clear hC12 hC2 hb20
    obtain ⟨k, hk, rfl, hX, hY, hb⟩ := hrel
    go_wp2_with fail
    refine (Around_any many 41 _ many0 many1 (by omega) (by omega)).mono ?_
    rintro e w3 ⟨rfl, rfl⟩
    rw [eM.out]
    have hks := Lib.hid (keyN_bd s k)
    have hst := sendN_st s hs1 k
    have hok := Lib.hid (sendN_ok hs1 k)
    by_cases hlt : k < M
    · have hnx := Lib.hid (send_next hs0.out k)
      have hask := Lib.hid (send_ask hs0.out k)
      have t0 : ((k : Int) != (k : Int)) = false := bne_self_eq_false _
      have t1 : (keyN s k != keyN s k) = false := bne_self_eq_false _
      have t2 : (keyN s k == 0) = false := beq_eq_false_iff_ne.2 (by have := hks.out; omega)
      generalize hkk : keyN s k = key at *
      go_wp2_with fail
      refine (Next_as c1 b1 _ _ hX (by show k ≤ _; omega) hst.1 hst.2 _ _ _ hnx.out).mono ?_
      rintro e w4 ⟨rfl, hX4, hT4⟩
      have hY4 := hY.two hT4 ⟨hD1.1, hD1.2.1⟩ ⟨hD1.2.2.1, hD1.2.2.2⟩
      have hb4 := Two.below0 hb hT4 hc1 hbb1
      clear hX hY hT4 hb
      go_wp2_with fail
      refine (Key_as c2 b2 _ k _ hY4 (by show k ≤ _; omega) hok.out (by omega) (by omega) _ _ _ hask.out).mono ?_
      rintro e w5 ⟨rfl, hY5, hT5⟩
      have hX5 := hX4.two hT5 ⟨fun e => hD1.1 e.symm, fun e => hD1.2.2.1 e.symm⟩ ⟨fun e => hD1.2.1 e.symm, fun e => hD1.2.2.2 e.symm⟩
      have hb5 := Two.below0 hb4 hT5 hc2'.1 hc2'.2
      clear hX4 hY4 hT5 hb4
      go_wp2_with fail
      go_roundw
      case rel => exact ⟨k + 1, by omega, by go_num, hX5, hY5, hb5⟩
      case measure => simp [intOf]; omega
    · go_wp2_with fail
      refine (Put_any c1 b1 _ _ hX hok.out (by show k ≤ _; omega)).mono ?_
      rintro e w4 ⟨p4, c4, rfl, hc4, h4, hf4, hp4, hb4, hl4⟩
      have hX4 := hX.below hb4
      have hY4 := hY.below hb4
      have hb40 := hb.trans (hb4.mono hb.size)
      clear hX hY hb4 hb
      go_wp2_with fail
      refine (Put_any c2 b2 _ _ hY4 hok.out (by show k ≤ _; omega)).mono ?_
      rintro e w5 ⟨p5, c5, rfl, hc5, h5, hf5, hp5, hb5, hl5⟩
      have hX5 := hX4.below hb5
      have h45 := h4.below hb5
      have hb50 := hb40.trans (hb5.mono hb40.size)
      generalize putB (sendN s k) = PB at *
      clear hX4 hY4 h4 hb5 hb40
      go_wp2_with fail
      refine (SameBytes_yes _ _ _ _ _ _ _ h45 h5 (by omega)).mono ?_
      rintro e w6 ⟨rfl, hb6⟩
      have hX6 := hX5.below hb6
      have hb60 := hb50.trans (hb6.mono hb50.size)
      clear hX5 h45 h5 hb6 hb50
      go_wp2_with fail
      refine (Kept_any c1 b1 _ _ hX6 hok.out (by show k ≤ _; omega)).mono ?_
      rintro e w7 ⟨p7, c7, rfl, _, _, hb7⟩
      have hb70 := hb60.trans (hb7.mono hb60.size)
      clear hX6 hb7 hb60
      have hln : (sendN s k).ks.length = 0 := rfl
      rw [hln]
      clear hln
      go_wp2_with fail
      refine (lives_any _).mono ?_
      rintro e w8 ⟨rfl, hb8⟩
      go_wp2_with fail
      go_ret
      exact ⟨rfl, hb70.trans (hb8.mono hb70.size)⟩
end Go.Proofs.Ytcnhgkgabddjmaa
