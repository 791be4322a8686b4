/-
  The walk of the statement that each number's key is told once.
-/
import Derived.Test.YtcnhgkgabddjmaaChH
namespace Go.Proofs.Ytcnhgkgabddjmaa
open Go.RowKit Go.Maps

theorem around_21 (n : Int) : ∃ d : Nat, Hid (around n 21 = (d : Int)) ∧ d ≤ 1000 := by
  obtain ⟨h0, h1⟩ := around_bd n 21 (by omega)
  exact ⟨(around n 21).toNat, Lib.hid (by omega), by omega⟩
set_option maxRecDepth 100000 in
set_option maxHeartbeats 4000000 in
theorem once_walk (ep dev : Int) (pl : Option Addr) (nl : Nat) (xl : List Int) (cl : Nat) (w : World) (ep0 : 0 ≤ ep) (ep1 : ep < 18446744073709551616) (dev0 : -9223372036854775808 ≤ dev) (dev1 : dev ≤ 9223372036854775807) (hL : UI w pl nl xl) (_ : nl ≤ cl) (hnL : nl ≤ 9223372036854775807) (_ : pl = none → cl = 0) :
    Calls Try.prog 3 #[.int .u64 ep, .int .i64 dev, .slice pl nl cl] w fun e w' => e = .returned (.bool true) ∧ Below w.heap.size w w' := by
  obtain ⟨d, ed, hd⟩ := around_21 dev
  obtain ⟨m, hm⟩ : ∃ m, Hid (Ch.new ep d = m) := ⟨_, Lib.hid rfl⟩
  have hT0 := Tk.new ep d
  rw [hm.out] at hT0
  have hs1 : 1 ≤ m.st ∧ m.st ≤ 2305843009213693949 := by rw [← hm.out]; exact secI_bd _ _
  have hsn : m = sendN m.st 0 := by rw [← hm.out]; rfl
  obtain ⟨s, es⟩ : ∃ s, m.st = s := ⟨_, rfl⟩
  rw [es] at hT0 hs1 hsn
  subst hsn
  have hs0 : s ≠ 0 := by omega
  replace hs0 := Lib.hid hs0
  replace es := Lib.hid es
  go_enter Try.func3, Try.ntmps3
  go_wp2_with fail
  refine (Around_any dev 21 _ dev0 dev1 (by omega) (by omega)).mono ?_
  rintro e w1 ⟨rfl, rfl⟩
  rw [ed.out]
  go_wp2_with fail
  refine (New_as ep d _ ep0 ep1 hd _ hm.out).mono ?_
  rintro e w1 ⟨c1, b1, rfl, hC1, hc1, hbb1, hb1⟩
  replace hL := Lib.hid hL
  go_wp2_with fail
  refine (New_as ep d _ ep0 ep1 hd _ hm.out).mono ?_
  rintro e w2 ⟨c2, b2, rfl, hC2, hc2, hbb2, hb2⟩
  have hD1 : c2 ≠ c1 ∧ c2 ≠ b1 ∧ b2 ≠ c1 ∧ b2 ≠ b1 := by have := hC1.lt; have := hC1.map.lt; omega
  have hC12 := hC1.below hb2
  have hb20 := hb1.trans (hb2.mono hb1.size)
  have hc2' : w.heap.size ≤ c2 ∧ w.heap.size ≤ b2 := by have := hb1.size; omega
  clear hC1 hb1 hb2 hc2 hbb2
  have hlc : c1 < w2.heap.size ∧ b1 < w2.heap.size ∧ c2 < w2.heap.size ∧ b2 < w2.heap.size := ⟨hC12.lt, hC12.map.lt, hC2.lt, hC2.map.lt⟩
  go_wp2_with fail
  go_loopw [10, 11] (fun v i wr => ∃ k : Nat, k ≤ 30 ∧ i = .int .i64 k ∧ Own wr w2.heap.size v k (keysL s k) ∧ ChAt wr c1 b1 (sendN s k) ∧ Two w2 wr c1 b1)
    (fun _ i _ => 30 - (intOf i).toNat)
  case atStart => exact ⟨0, by omega, rfl, Own.nil _ _, hC12, Two.refl _ _ _⟩
  case round =>
    obtain ⟨k, hk, rfl, hO, hCk, hTk⟩ := hrel
    clear hC12
    by_cases hlt : k < 30
    · have hnx := Lib.hid (send_next hs0.out k)
      have hks := Lib.hid (keyN_bd s k)
      have hst := sendN_st s hs1 k
      have t0 : ((k : Int) != (k : Int)) = false := bne_self_eq_false _
      have hky : 0 ≤ keyN s k ∧ keyN s k < 18446744073709551616 := by have := hks.out; omega
      go_wp2_with fail
      refine (Next_as c1 b1 _ _ hCk (by show k ≤ _; omega) hst.1 hst.2 _ _ _ hnx.out).mono ?_
      rintro e w3 ⟨rfl, hC3, hT3⟩
      have hO3 := hO.two hT3 hlc.1 hlc.2.1
      have hz := (hTk.trans hT3).size
      generalize hkk : keyN s k = key at *
      clear hO hCk
      go_wp2_with (at_builtin; refine app_one rfl _ _ rfl hO3 rfl rfl hky (by omega) hz ?_; intro v' w4 hO4 hb4)
      go_roundw
      case rel =>
        rw [← hkk, ← keysL_succ] at hO4
        exact ⟨k + 1, by omega, by go_num, hO4, hC3.belowB hb4 hlc.1 hlc.2.1, (hTk.trans hT3).belowB hb4⟩
      case measure => simp [intOf]; omega
    · obtain rfl : k = 30 := by omega
      rw [show ((30 : Nat) : Int) = 30 from rfl]
      have hbr := Two.below0 hb20 hTk hc1 hbb1
      have hC2r := hC2.two hTk ⟨hD1.1, hD1.2.1⟩ ⟨hD1.2.2.1, hD1.2.2.2⟩
      clear hC2
      obtain ⟨pk, ck, rfl, _, hU, hfk⟩ := hO.uf
      have hfk' : ∀ a, pk = some a → a.block ≠ c2 ∧ a.block ≠ b2 := fun a ha => by have := hfk a ha; omega
      have hlr : c2 < wr.heap.size ∧ b2 < wr.heap.size := ⟨hC2r.lt, hC2r.map.lt⟩
      clear hO hTk hCk
      go_wp2_with fail
      go_loopw [14, 15] (fun v i W => ∃ (k : Nat) (had : List Int) (nh : Nat) (m : Ch), k ≤ nl ∧ k ≤ 20 ∧ i = .int .i64 k ∧ OwnI W wr.heap.size v nh had ∧ nh ≤ k ∧ ChAt W c2 b2 m ∧ Hid (Tk s had m) ∧ m.num ≤ 30 ∧ Two wr W c2 b2)
        (fun _ i _ => 20 - (intOf i).toNat)
      case atStart => exact ⟨0, [], 0, _, by omega, by omega, rfl, OwnI.nil _ _, Nat.le_refl _, hC2r, Lib.hid hT0, by show (0 : Nat) ≤ 30; omega, Two.refl _ _ _⟩
      case round =>
        clear hC2r hT0
        obtain ⟨k, had, nh, m, hk, hk20, rfl, hO, hnh, hCm, hTm, hmn, hTw⟩ := hrel
        have hlen := hO.len
        obtain ⟨ph, ch, rfl, _, hUh, _⟩ := hO.u
        have hbW := Two.below0 hbr hTw hc2'.1 hc2'.2
        by_cases h1 : k < nl
        · by_cases h2 : k < 20
          · obtain ⟨bl, ol, rfl, _, hcl, hx0, hx1⟩ := (hL.out.below hbW).look h1
            obtain ⟨a0, a1⟩ := around_bd (nth xl k) 30 (by omega)
            obtain ⟨x, hx⟩ : ∃ x : Nat, around (nth xl k) 30 = x := ⟨(around (nth xl k) 30).toNat, by omega⟩
            have hx30 : x < 30 := by omega
            go_wp2_with (go_at_call 11; refine (Around_any (nth xl k) 30 _ hx0 hx1 (by omega) (by omega)).mono ?_; rintro e w' ⟨rfl, rfl⟩; rw [hx])
            have hmn' : m.num ≤ 1152921504606846976 := by omega
            by_cases hin : (x : Int) ∈ had
            · have he := Lib.hid (hTm.out.used hin)
              have hok := hTm.out.ok
              have hr : Hid (true = had.contains (x : Int)) := Lib.hid (by rw [List.contains_iff_mem.2 hin])
              replace hin := Lib.hid hin
              refine (Key_as c2 b2 m x _ hCm hmn' hok (by omega) (by omega) _ _ _ he.out).mono ?_
              rintro e w3 ⟨rfl, hC3, hT3⟩
              have hUh3 := hUh.two hT3 (fun a ha => by have := hO.lt (g := a.block) (by rw [ha]; rfl); omega)
              have hO3 := hO.two hT3 hlr.1 hlr.2
              have hT30 := hTw.trans hT3
              clear hUh hO hCm hT3 hTw hcl
              go_wp2_with fail
              refine (Has_any ph nh had ch x _ hUh3 (by omega) true hr).mono ?_
              rintro e w4 ⟨rfl, rfl⟩
              go_wp2_with fail
              go_roundw
              case rel => exact ⟨k + 1, had, nh, m, by omega, by omega, by go_num, hO3, by omega, hC3, hTm, hmn, hT30⟩
              case measure => simp [intOf]; omega
            · obtain ⟨m', he, hTm', hmax⟩ := hTm.out.tell hin (by omega) (by omega)
              have hok := hTm.out.ok
              replace he := Lib.hid he
              replace hTm' := Lib.hid hTm'
              have hr : Hid (false = had.contains (x : Int)) := Lib.hid (by symm; rw [List.contains_eq_mem, decide_eq_false_iff_not]; exact hin)
              replace hin := Lib.hid hin
              have hkx : (Int.toNat (x : Int)) = x := rfl
              rw [hkx] at he
              refine (Key_as c2 b2 m x _ hCm hmn' hok (by omega) (by omega) _ _ _ he.out).mono ?_
              rintro e w3 ⟨rfl, hC3, hT3⟩
              have hUh3 := hUh.two hT3 (fun a ha => by have := hO.lt (g := a.block) (by rw [ha]; rfl); omega)
              have hO3 := hO.two hT3 hlr.1 hlr.2
              have hT30 := hTw.trans hT3
              have hU3 := hU.two hT30 hfk'
              obtain ⟨bk, ok, rfl, _, hck, _⟩ := hU3.look hx30
              rw [nth_keysL s hx30] at hck
              clear hUh hO hCm hT3 hTw hcl
              go_wp2_with fail
              refine (Has_any ph nh had ch x _ hUh3 (by omega) false hr).mono ?_
              rintro e w4 ⟨rfl, rfl⟩
              have hz := hT30.size
              have hkk := bne_self_eq_false (keyN s x)
              have hmn2 : m'.num ≤ 30 := by omega
              clear hmax hkx
              go_wp2_with (at_builtin; refine app_i (y := (x : Int)) rfl _ _ rfl hO3 rfl rfl (by omega) (by omega) hz ?_; intro v' w4 hO4 hb4)
              go_roundw
              case rel => exact ⟨k + 1, _, nh + 1, m', by omega, by omega, by go_num, hO4, by omega, hC3.belowB hb4 hlr.1 hlr.2, hTm', hmn2, hT30.belowB hb4⟩
              case measure => simp [intOf]; omega
          · clear hO hUh hCm hTw hU
            go_wp2_with fail
            refine (lives_any _).mono ?_
            rintro e w5 ⟨rfl, hb5⟩
            go_wp2_with fail
            go_ret
            exact ⟨rfl, hbW.trans (hb5.mono hbW.size)⟩
        · clear hO hUh hCm hTw hU
          go_wp2_with fail
          refine (lives_any _).mono ?_
          rintro e w5 ⟨rfl, hb5⟩
          go_wp2_with fail
          go_ret
          exact ⟨rfl, hbW.trans (hb5.mono hbW.size)⟩
end Go.Proofs.Ytcnhgkgabddjmaa
