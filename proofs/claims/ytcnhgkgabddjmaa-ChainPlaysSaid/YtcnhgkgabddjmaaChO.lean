/-
  Acts on a chain (3): what an act does; a chain that was played.
-/
import Derived.Test.YtcnhgkgabddjmaaChN
import Derived.OwnWalk
namespace Go.Proofs.Ytcnhgkgabddjmaa
open Go.RowKit Go.Maps

theorem Ch.Ok.st64 {m : Ch} (h : m.Ok) : 0 ≤ m.st ∧ m.st < 18446744073709551616 := by rcases h.st with h | h <;> omega
theorem Two.of_drawn {w w' : World} {c b : Nat} (h : Below w.heap.size w w') : Two w w' c b := Two.of_below h
set_option maxRecDepth 100000 in
theorem does_any (c b : Nat) (m : Ch) (a : Int × Int) (w : World) (hC : ChAt w c b m) (hok : m.Ok) (hn : m.num ≤ 1152921504606846976) (ha : ActOk a) (m' : Ch) (x k er : Int) (he : m.act a = (m', x, k, er)) :
    Calls Try.prog 27 #[.pointer (some ⟨c, 0, none⟩), .agg #[.int .i64 a.1, .int .i64 a.2]] w fun e w' => e = .returned (.tuple #[.int .i64 x, .int .u64 k, .int .i64 er]) ∧ ChAt w' c b m' ∧ Two w w' c b := by
  obtain ⟨d, n⟩ := a
  obtain ⟨hd, n0, n1⟩ := ha
  have hst := hok.st64
  replace hok := Lib.hid hok
  dsimp only at hd n0 n1 ⊢
  have hbX := Below.lit w (.cells #[.int .i64 d, .int .i64 n] 51)
  have hCX := hC.below hbX
  have hTX : Two w (w.alloc (.cells #[.int .i64 d, .int .i64 n] 51)) c b := Two.of_below hbX
  rcases hd with rfl | rfl | rfl
  · have hask : Hid (m.ask n = (m', k, er)) ∧ Hid (x = 0) := by
      unfold Ch.act at he
      rw [if_neg (show ¬ ((0 : Int) = 1) by decide), if_neg (show ¬ ((0 : Int) = 2) by decide)] at he
      injection he with h1 h2
      injection h2 with h2 h3
      injection h3 with h3 h4
      exact ⟨Lib.hid (by rw [← h1, ← h3, ← h4]), Lib.hid h2.symm⟩
    obtain ⟨hask, hx⟩ := hask
    clear he
    go_enter Try.func27, Try.ntmps27
    go_wp2_with fail
    refine (Key_as c b _ _ _ hCX (by omega) hok.out (by omega) (by omega) _ _ _ hask.out).mono ?_
    rintro e w2 ⟨rfl, hC2, hT2⟩
    go_wp2_with fail
    go_ret3
    exact ⟨by rw [hx.out]; rfl, hC2, hTX.trans hT2⟩
  · have hnx : Hid (m.next = (m', x, k)) ∧ Hid (er = 0) := by
      unfold Ch.act at he
      rw [if_pos rfl] at he
      injection he with h1 h2
      injection h2 with h2 h3
      injection h3 with h3 h4
      exact ⟨Lib.hid (by rw [← h1, ← h2, ← h3]), Lib.hid h4.symm⟩
    obtain ⟨hnx, hx⟩ := hnx
    clear he
    go_enter Try.func27, Try.ntmps27
    go_wp2_with fail
    refine (Next_as c b _ _ hCX (by omega) hst.1 hst.2 _ _ _ hnx.out).mono ?_
    rintro e w2 ⟨rfl, hC2, hT2⟩
    go_wp2_with fail
    go_ret3
    exact ⟨by rw [hx.out]; rfl, hC2, hTX.trans hT2⟩
  · have hnx : Hid (m' = m.shut) ∧ Hid (x = 0 ∧ k = 0 ∧ er = 0) := by
      unfold Ch.act at he
      rw [if_neg (show ¬ ((2 : Int) = 1) by decide), if_pos rfl] at he
      injection he with h1 h2
      injection h2 with h2 h3
      injection h3 with h3 h4
      exact ⟨Lib.hid h1.symm, Lib.hid ⟨h2.symm, h3.symm, h4.symm⟩⟩
    obtain ⟨hm, hx⟩ := hnx
    clear he
    go_enter Try.func27, Try.ntmps27
    go_wp2_with fail
    refine (Shut_any c b _ _ hCX).mono ?_
    rintro e w2 ⟨rfl, hC2, hT2⟩
    go_wp2_with fail
    go_ret3
    exact ⟨by rw [hx.out.1, hx.out.2.1, hx.out.2.2]; rfl, by rw [hm.out]; exact hC2, hTX.trans hT2⟩
set_option maxRecDepth 100000 in
theorem played_any (ep : Int) (d : Nat) (p : Option Addr) (n : Nat) (xs : List Int) (cp : Nat) (w : World) (h0 : 0 ≤ ep) (h1 : ep < 18446744073709551616) (hd : d ≤ 1000) (hX : UI w p n xs) (hn : n ≤ 9223372036854775807) (mf : Ch) (hm : (Ch.new ep d).acts (actsOf xs) = mf) :
    Calls Try.prog 29 #[.int .u64 ep, .int .i64 d, .slice p n cp] w fun e w' => ∃ c b, e = .returned (.pointer (some ⟨c, 0, none⟩)) ∧ ChAt w' c b mf ∧ w.heap.size ≤ c ∧ w.heap.size ≤ b ∧ Below w.heap.size w w' := by
  obtain ⟨m0, hm0⟩ : ∃ m0, Hid (Ch.new ep d = m0) := ⟨_, Lib.hid rfl⟩
  have hok0 : m0.Ok := by rw [← hm0.out]; exact Ch.Ok.new _ _
  have hn0 : m0.num ≤ 1 := by rw [← hm0.out]; show 0 ≤ 1; omega
  rw [hm0.out] at hm
  replace hm := Lib.hid hm
  have hk16 : (actsOf xs).length ≤ 16 := by unfold actsOf; rw [List.length_map, List.length_take]; omega
  have hall := actsOf_ok xs
  go_enter Try.func29, Try.ntmps29
  go_wp2_with fail
  refine (New_as ep d _ h0 h1 hd _ hm0.out).mono ?_
  rintro e w1 ⟨c, b, rfl, hC, hc, hbb, hb⟩
  have hX1 := hX.below hb
  clear hX
  go_wp2_with fail
  refine (Acts_any _ _ _ _ _ hX1 hn).mono ?_
  rintro e w2 ⟨q, k, cq, rfl, hA, hkm, hF, hb2⟩
  have hC2 := hC.below hb2
  have hb20 := hb.trans (hb2.mono hb.size)
  have hfx : ∀ a, q = some a → a.block ≠ c ∧ a.block ≠ b := fun a ha => by have := hF a ha; have := hC.lt; have := hC.map.lt; omega
  have hl := hA.len
  clear hX1 hC hb hb2 hF
  generalize actsOf xs = acs at *
  replace hl := Lib.hid hl
  replace hall := Lib.hid hall
  replace hok0 := Lib.hid hok0
  go_wp2_with fail
  go_loopw [9] (fun i W => ∃ j : Nat, j ≤ k ∧ i = .int .i64 j ∧ ChAt W c b (m0.acts (acs.take j)) ∧ Ac W q k acs ∧ Below w.heap.size w W)
    (fun i _ => k - (intOf i).toNat)
  case atStart => exact ⟨0, by omega, rfl, hC2, hA, hb20⟩
  case round =>
    clear hC2 hA hb20
    obtain ⟨j, hj, rfl, hC, hA, hb⟩ := hrel
    by_cases hlt : j < k
    · obtain ⟨hok, hnum⟩ := hok0.out.acts (acs.take j)
      have hsn := m0.acts_snoc (acs.take j) (ac acs j)
      have htk : acs.take (j + 1) = acs.take j ++ [ac acs j] := by
        have hj' : j < acs.length := by rw [hl.out]; exact hlt
        rw [List.take_succ_eq_append_getElem hj', ac_eq hj']
      rw [← htk] at hsn
      have htl : (acs.take j).length ≤ 16 := by rw [List.length_take]; omega
      have hao := hall.out (ac acs j) (by rw [ac_eq (by rw [hl.out]; exact hlt)]; exact List.getElem_mem _)
      generalize m0.acts (acs.take j) = mj at *
      obtain ⟨m', x, ky, er, he⟩ : ∃ m' x ky er, mj.act (ac acs j) = (m', x, ky, er) := ⟨_, _, _, _, rfl⟩
      rw [he] at hsn
      dsimp only at hsn
      replace hsn := Lib.hid hsn
      obtain ⟨bl, ol, rfl, _, hc1, hc2⟩ := hA.look hlt
      replace he := Lib.hid he
      replace hok := Lib.hid hok
      replace htk := Lib.hid htk
      have hnum2 : mj.num ≤ 1152921504606846976 := by omega
      clear htl hnum
      go_wp2_with fail
      refine (does_any c b mj (ac acs j) _ hC hok.out hnum2 hao _ _ _ _ he.out).mono ?_
      rintro e w4 ⟨rfl, hC4, hT4⟩
      have hb4 := Two.below0 hb hT4 hc hbb
      have hA4 := hA.two hT4 hfx
      clear hC hT4 hb hA hc1 hc2
      go_wp2_with fail
      go_roundw
      case rel => exact ⟨j + 1, by omega, by go_num, by rw [hsn.out]; exact hC4, hA4, hb4⟩
      case measure => simp [intOf]; omega
    · obtain rfl : j = k := by omega
      have hfin : acs.take j = acs := List.take_of_length_le (by rw [hl.out]; exact Nat.le_refl _)
      rw [hfin, hm.out] at hC
      clear hfin
      go_wp2_with fail
      go_ret
      exact ⟨c, b, rfl, hC, hc, hbb, hb⟩
end Go.Proofs.Ytcnhgkgabddjmaa
