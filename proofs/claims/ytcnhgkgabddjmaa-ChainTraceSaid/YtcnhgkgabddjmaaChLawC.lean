/-
  The walk of the statement that in whatever row the keys are told, the chain is the same in the end.
-/
import Derived.Test.YtcnhgkgabddjmaaChK
import Derived.Test.YtcnhgkgabddjmaaChLawA
namespace Go.Proofs.Ytcnhgkgabddjmaa
open Go.RowKit Go.Maps

theorem ks_eq (ks : List (Int × Int)) (hr : ks.Pairwise fun p q => p.1 < q.1) : ks = (numsK ks).map fun k => (k, (valK ks k).getD 0) := by
  unfold numsK
  rw [List.map_map]
  refine (List.map_id ks).symm.trans (List.map_congr_left fun p hp => ?_)
  show p = (p.1, (valK ks p.1).getD 0)
  rw [valK_at hr hp]; rfl
theorem ks_ext {a b : List (Int × Int)} (ha : a.Pairwise fun p q => p.1 < q.1) (hb : b.Pairwise fun p q => p.1 < q.1) (h : ∀ k, valK a k = valK b k) : a = b := by
  have e : numsK a = numsK b := lt_ext _ _ (by unfold numsK; exact List.pairwise_map.2 ha) (by unfold numsK; exact List.pairwise_map.2 hb) fun x => by
    rw [← valK_some_iff, ← valK_some_iff, h]
  rw [ks_eq a ha, ks_eq b hb, e]
  exact List.map_congr_left fun k _ => by rw [h]
/-- What a chain is, is told by the numbers that it was asked for. -/
theorem Tk.same {s : Int} {h1 h2 : List Int} {m1 m2 : Ch} (a : Tk s h1 m1) (b : Tk s h2 m2) (h : ∀ x, x ∈ h1 ↔ x ∈ h2) : m1 = m2 := by
  have e : m1.num = m2.num := by
    have f1 : m1.num ≤ m2.num := by
      rcases a.top with t | t
      · omega
      · have := b.hads _ ((h _).1 t); omega
    have f2 : m2.num ≤ m1.num := by
      rcases b.top with t | t
      · omega
      · have := a.hads _ ((h _).2 t); omega
    omega
  have e2 : m1.st = m2.st := by rw [a.st, b.st, e]
  have e3 : m1.ks = m2.ks := ks_ext a.ok.rise b.ok.rise fun k => by
    rw [a.val, b.val, e]
    simp only [h]
  obtain ⟨n1, s1, k1⟩ := m1
  obtain ⟨n2, s2, k2⟩ := m2
  simp only at e e2 e3
  rw [e, e2, e3]
/-- Numbers, each once. -/
def OnceL (all : List Int) : Prop := all.Nodup ∧ ∀ x ∈ all, 0 ≤ x ∧ x < 20
theorem OnceL.nil : OnceL [] := ⟨List.nodup_nil, fun _ h => by cases h⟩
theorem OnceL.snoc {all : List Int} (h : OnceL all) {x : Int} (hx : x ∉ all) (h0 : 0 ≤ x) (h1 : x < 20) : OnceL (all ++ [x]) := by
  refine ⟨?_, fun y hy => ?_⟩
  · refine List.nodup_append.2 ⟨h.1, List.pairwise_singleton _ _, fun a ha b hb e => ?_⟩
    rw [List.mem_singleton] at hb
    subst hb; subst e
    exact hx ha
  · rcases List.mem_append.1 hy with hy | hy
    · exact h.2 y hy
    · rw [List.mem_singleton] at hy; subst hy; exact ⟨h0, h1⟩
theorem nth_inj {all : List Int} (h : all.Nodup) {i j : Nat} (hi : i < all.length) (hj : j < all.length) (e : nth all i = nth all j) : i = j := by
  rw [nth_eq hi, nth_eq hj] at e
  rcases Nat.lt_trichotomy i j with h1 | h1 | h1
  · exact absurd e (List.pairwise_iff_getElem.1 h i j hi hj h1)
  · exact h1
  · exact absurd e.symm (List.pairwise_iff_getElem.1 h j i hj hi h1)
/-- The numbers, turned. -/
def rotL (all : List Int) (k i : Nat) : List Int := (List.range i).map fun j => nth all ((j + k) % all.length)
theorem rotL_succ (all : List Int) (k i : Nat) : rotL all k (i + 1) = rotL all k i ++ [nth all ((i + k) % all.length)] := by unfold rotL; rw [List.range_succ, List.map_append]; rfl
theorem rot_new {all : List Int} (h : all.Nodup) (k : Nat) {i : Nat} (hi : i < all.length) : nth all ((i + k) % all.length) ∉ rotL all k i := by
  intro hm
  unfold rotL at hm
  obtain ⟨j, hj, e⟩ := List.mem_map.1 hm
  rw [List.mem_range] at hj
  have hp : 0 < all.length := by omega
  have e2 := nth_inj h (Nat.mod_lt _ hp) (Nat.mod_lt _ hp) e
  have h1 := Nat.div_add_mod (j + k) all.length
  have h2 := Nat.div_add_mod (i + k) all.length
  rw [e2] at h1
  have h3 : all.length * ((i + k) / all.length) = all.length * ((j + k) / all.length) + (i - j) := by omega
  rcases Nat.lt_trichotomy ((j + k) / all.length) ((i + k) / all.length) with h4 | h4 | h4
  · have := Nat.mul_le_mul_left all.length (Nat.succ_le_of_lt h4)
    rw [Nat.mul_succ] at this
    omega
  · rw [h4] at h3; omega
  · have := Nat.mul_le_mul_left all.length (Nat.le_of_lt h4)
    omega
theorem rot_mem {all : List Int} (k : Nat) (x : Int) : x ∈ rotL all k all.length ↔ x ∈ all := by
  constructor
  · intro hm
    unfold rotL at hm
    obtain ⟨j, hj, e⟩ := List.mem_map.1 hm
    rw [List.mem_range] at hj
    rw [← e]
    exact nth_mem (Nat.mod_lt _ (by omega))
  · intro hm
    obtain ⟨q, hq, e⟩ := List.getElem_of_mem hm
    have hp : 0 < all.length := by omega
    unfold rotL
    refine List.mem_map.2 ⟨(q + (all.length - k % all.length)) % all.length, List.mem_range.2 (Nat.mod_lt _ hp), ?_⟩
    have hk := Nat.mod_lt k hp
    have : ((q + (all.length - k % all.length)) % all.length + k) % all.length = q := by
      rw [Nat.mod_add_mod]
      have hk2 := Nat.div_add_mod k all.length
      have e1 : q + (all.length - k % all.length) + k = q + all.length * (k / all.length + 1) := by rw [Nat.mul_succ]; omega
      rw [e1, Nat.add_mul_mod_self_left, Nat.mod_eq_of_lt hq]
    rw [this, nth_eq hq, e]
theorem take_new {all : List Int} (h : all.Nodup) {i : Nat} (hi : i < all.length) : nth all i ∉ all.take i := by
  intro hm
  obtain ⟨j, hj, e⟩ := List.getElem_of_mem hm
  rw [List.getElem_take] at e
  rw [List.length_take] at hj
  have := nth_inj h (i := j) (j := i) (by omega) hi (by rw [nth_eq (by omega : j < all.length)]; exact e)
  omega
theorem take_nth {all : List Int} {i : Nat} (hi : i < all.length) : all.take (i + 1) = all.take i ++ [nth all i] := by
  rw [List.take_succ_eq_append_getElem hi, nth_eq hi]
set_option maxRecDepth 100000 in
set_option maxHeartbeats 4000000 in
theorem trace_walk (ep dev : Int) (pl : Option Addr) (nl : Nat) (xl : List Int) (cl : Nat) (turn : Int) (w : World) (ep0 : 0 ≤ ep) (ep1 : ep < 18446744073709551616) (dev0 : -9223372036854775808 ≤ dev) (dev1 : dev ≤ 9223372036854775807) (hL : UI w pl nl xl) (_ : nl ≤ cl) (hnL : nl ≤ 9223372036854775807) (_ : pl = none → cl = 0) (turn0 : -9223372036854775808 ≤ turn) (turn1 : turn ≤ 9223372036854775807) :
    Calls Try.prog 4 #[.int .u64 ep, .int .i64 dev, .slice pl nl cl, .int .i64 turn] w fun e w' => e = .returned (.bool true) ∧ Below w.heap.size w w' := by
  obtain ⟨d, ed, hd⟩ := around_21 dev
  obtain ⟨m, hm⟩ : ∃ m, Hid (Ch.new ep d = m) := ⟨_, Lib.hid rfl⟩
  have hT0 := Tk.new ep d
  rw [hm.out] at hT0
  have hmn0 : m.num = 0 := by rw [← hm.out]; rfl
  obtain ⟨s, es⟩ : ∃ s, m.st = s := ⟨_, rfl⟩
  rw [es] at hT0
  replace hT0 := Lib.hid hT0
  replace es := Lib.hid es
  go_enter Try.func4, Try.ntmps4
  go_wp2_with fail
  refine (Around_any dev 21 _ dev0 dev1 (by omega) (by omega)).mono ?_
  rintro e w1 ⟨rfl, rfl⟩
  rw [ed.out]
  go_wp2_with fail
  refine (New_as ep d _ ep0 ep1 hd _ hm.out).mono ?_
  rintro e w1 ⟨c1, b1, rfl, hC1, hc1, hbb1, hb1⟩
  replace hL := Lib.hid hL
  go_wp2_with fail
  refine (New_as ep d _ ep0 ep1 hd _ hm.out).mono ?_
  rintro e w2 ⟨c2, b2, rfl, hC2, hc2, hbb2, hb2⟩
  have hD1 : c2 ≠ c1 ∧ c2 ≠ b1 ∧ b2 ≠ c1 ∧ b2 ≠ b1 := by have := hC1.lt; have := hC1.map.lt; omega
  have hC12 := hC1.below hb2
  have hb20 := hb1.trans (hb2.mono hb1.size)
  have hc2' : w.heap.size ≤ c2 ∧ w.heap.size ≤ b2 := by have := hb1.size; omega
  clear hC1 hb1 hb2 hc2 hbb2
  have hlc : c1 < w2.heap.size ∧ b1 < w2.heap.size ∧ c2 < w2.heap.size ∧ b2 < w2.heap.size := ⟨hC12.lt, hC12.map.lt, hC2.lt, hC2.map.lt⟩
  go_wp2_with fail
  go_loopw [12, 13] (fun v i wr => ∃ (k : Nat) (all : List Int) (na : Nat), k ≤ nl ∧ k ≤ 12 ∧ i = .int .i64 k ∧ OwnI wr w2.heap.size v na all ∧ na ≤ k ∧ Hid (OnceL all) ∧ Below w2.heap.size w2 wr)
    (fun _ i _ => 12 - (intOf i).toNat)
  case atStart => exact ⟨0, [], 0, by omega, by omega, rfl, OwnI.nil _ _, Nat.le_refl _, Lib.hid OnceL.nil, Below.refl _ _⟩
  case round =>
    obtain ⟨k, all, na, hk, hk12, rfl, hO, hna, hall, hbr⟩ := hrel
    obtain ⟨pa, ca, rfl, _, hU, hfa⟩ := hO.u
    have hbW := hb20.trans (hbr.mono hb20.size)
    by_cases hgo : k < nl ∧ k < 12
    · obtain ⟨h1, h2⟩ := hgo
      obtain ⟨bl, ol, rfl, _, hcl, hx0, hx1⟩ := (hL.out.below hbW).look h1
      obtain ⟨a0, a1⟩ := around_bd (nth xl k) 20 (by omega)
      obtain ⟨x, hx⟩ : ∃ x : Nat, around (nth xl k) 20 = x := ⟨(around (nth xl k) 20).toNat, by omega⟩
      have hx20 : x < 20 := by omega
      go_wp2_with (go_at_call 11; refine (Around_any (nth xl k) 20 _ hx0 hx1 (by omega) (by omega)).mono ?_; rintro e w' ⟨rfl, rfl⟩; rw [hx])
      by_cases hin : (x : Int) ∈ all
      · have hr : Hid (true = all.contains (x : Int)) := Lib.hid (by rw [List.contains_iff_mem.2 hin])
        replace hin := Lib.hid hin
        refine (Has_any pa na all ca x _ hU (by omega) true hr).mono ?_
        rintro e w4 ⟨rfl, rfl⟩
        clear hcl hU
        go_wp2_with fail
        go_roundw
        case rel => exact ⟨k + 1, all, na, by omega, by omega, by go_num, hO, by omega, hall, hbr⟩
        case measure => simp [intOf]; omega
      · have hr : Hid (false = all.contains (x : Int)) := Lib.hid (by symm; rw [List.contains_eq_mem, decide_eq_false_iff_not]; exact hin)
        have hall2 := Lib.hid (hall.out.snoc hin (by omega) (by omega))
        replace hin := Lib.hid hin
        refine (Has_any pa na all ca x _ hU (by omega) false hr).mono ?_
        rintro e w4 ⟨rfl, rfl⟩
        have hz := hbr.size
        clear hcl hU
        go_wp2_with (at_builtin; refine app_i (y := (x : Int)) rfl _ _ rfl hO rfl rfl (by omega) (by omega) hz ?_; intro v' w4 hO4 hb4)
        go_roundw
        case rel => exact ⟨k + 1, _, na + 1, by omega, by omega, by go_num, hO4, by omega, hall2, hbr.trans hb4⟩
        case measure => simp [intOf]; omega
    · have hxx := hC12.belowB hbr hlc.1 hlc.2.1
      have hyy := hC2.belowB hbr hlc.2.2.1 hlc.2.2.2
      have hfx : ∀ a, pa = some a → a.block ≠ c1 ∧ a.block ≠ b1 := fun a ha => by have := hfa a ha; omega
      have hfy : ∀ a, pa = some a → a.block ≠ c2 ∧ a.block ≠ b2 := fun a ha => by have := hfa a ha; omega
      obtain ⟨a0, a1⟩ := around_bd turn (na + 1) (by omega)
      obtain ⟨t, ht⟩ : ∃ t : Nat, Hid (around turn (na + 1) = t) ∧ t ≤ na := ⟨(around turn (na + 1)).toNat, Lib.hid (by omega), by omega⟩
      obtain ⟨ht, htn⟩ := ht
      have hal : all.length = na := hU.len
      replace hal := Lib.hid hal
      have hna12 : na ≤ 12 := by omega
      clear hO hC12 hC2 hbr hb20 a0 a1
      have h12 : ¬ k < nl ∨ (k < nl ∧ ¬ k < 12) := by omega
      clear hgo
      rcases h12 with h1 | ⟨h1, h2⟩
      all_goals
        go_wp2_with (go_at_call 11; refine (Around_any turn (na + 1) _ turn0 turn1 (by omega) (by omega)).mono ?_; rintro e w' ⟨rfl, rfl⟩; rw [ht.out])
        go_loopw [16] (fun i W => ∃ (j : Nat) (mx my : Ch), j ≤ na ∧ i = .int .i64 j ∧ ChAt W c1 b1 mx ∧ ChAt W c2 b2 my ∧ Hid (Tk s (all.take j) mx) ∧ Hid (Tk s (rotL all t j) my) ∧ mx.num ≤ 20 ∧ my.num ≤ 20 ∧ UI W pa na all ∧ Below w.heap.size w W)
          (fun i _ => na - (intOf i).toNat)
        case atStart => exact ⟨0, m, m, by omega, rfl, hxx, hyy, hT0, hT0, by omega, by omega, hU, hbW⟩
        case round =>
          clear hxx hyy hU hbW
          obtain ⟨j, mx, my, hj, rfl, hX, hY, hTx, hTy, hnx, hny, hU, hb⟩ := hrel
          have hal2 := hal.out
          by_cases hlt : j < na
          · obtain ⟨q, hq⟩ : ∃ q : Nat, q = (j + t) % na := ⟨_, rfl⟩
            have hqn : q < na := by rw [hq]; exact Nat.mod_lt _ (by omega)
            have hrem : ((j : Int) + (t : Int)).tmod (na : Int) = (q : Int) := by rw [hq]; rfl
            have hz : ((na : Int) == 0) = false := beq_eq_false_iff_ne.2 (by omega)
            obtain ⟨ba, oa, rfl, _, hc1', _⟩ := hU.look hlt
            have hc2'' := hU.cell hqn
            have hx20 := hall.out.2 _ (nth_mem (xs := all) (i := j) (by omega))
            have hy20 := hall.out.2 _ (nth_mem (xs := all) (i := q) (by omega))
            have nx := take_new hall.out.1 (i := j) (by omega)
            have ny := rot_new hall.out.1 t (i := j) (by omega)
            have tkn := take_nth (all := all) (i := j) (by omega)
            have rtn := rotL_succ all t j
            rw [hal2, ← hq] at ny rtn
            obtain ⟨mx', ex, hTx', hmx⟩ := hTx.out.tell nx hx20.1 (by omega)
            obtain ⟨my', ey, hTy', hmy⟩ := hTy.out.tell ny hy20.1 (by omega)
            rw [← tkn] at hTx'
            rw [← rtn] at hTy'
            have hokx := hTx.out.ok
            have hoky := hTy.out.ok
            generalize nth all j = X at *
            obtain ⟨Y, hYe⟩ : ∃ Y, nth all q = Y := ⟨_, rfl⟩
            rw [hYe] at hc2'' ey hy20 ny rtn hmy
            replace hYe := Lib.hid hYe
            have hmx2 : mx'.num ≤ 20 := by omega
            have hmy2 : my'.num ≤ 20 := by omega
            replace ex := Lib.hid ex
            replace ey := Lib.hid ey
            replace hTx' := Lib.hid hTx'
            replace hTy' := Lib.hid hTy'
            replace nx := Lib.hid nx
            replace ny := Lib.hid ny
            replace tkn := Lib.hid tkn
            replace rtn := Lib.hid rtn
            replace hq := Lib.hid hq
            replace hal2 := Lib.hid hal2
            have hix1 : (0 : Int) ≤ (j : Int) := by omega
            have hix2 : (j : Int) < (na : Int) := by omega
            have hix3 : (0 : Int) ≤ (q : Int) := by omega
            have hix4 : (q : Int) < (na : Int) := by omega
            go_wp2_with fail
            refine (Key_as c1 b1 mx X _ hX (by omega) hokx (by omega) (by omega) _ _ _ ex.out).mono ?_
            rintro e w4 ⟨rfl, hX4, hT4⟩
            have hY4 := hY.two hT4 ⟨hD1.1, hD1.2.1⟩ ⟨hD1.2.2.1, hD1.2.2.2⟩
            have hb4 := Two.below0 hb hT4 hc1 hbb1
            have hU4 := hU.two hT4 hfx
            clear hX hY hT4 hb hU hc1' hc2''
            have hc2'' := hU4.cell hqn
            rw [hYe.out] at hc2''
            go_wp2_with fail
            refine (Key_as c2 b2 my Y _ hY4 (by omega) hoky (by omega) (by omega) _ _ _ ey.out).mono ?_
            rintro e w5 ⟨rfl, hY5, hT5⟩
            have hX5 := hX4.two hT5 ⟨fun e => hD1.1 e.symm, fun e => hD1.2.2.1 e.symm⟩ ⟨fun e => hD1.2.1 e.symm, fun e => hD1.2.2.2 e.symm⟩
            have hb5 := Two.below0 hb4 hT5 hc2'.1 hc2'.2
            have hU5 := hU4.two hT5 hfy
            clear hX4 hY4 hT5 hb4 hU4 hc2''
            go_wp2_with fail
            go_roundw
            case rel => exact ⟨j + 1, mx', my', by omega, by go_num, hX5, hY5, hTx', hTy', hmx2, hmy2, hU5, hb5⟩
            case measure => simp [intOf]; omega
          · obtain rfl : j = na := by omega
            have hsame : mx = my := by
              refine Tk.same hTx.out hTy.out fun x => ?_
              have h1 := rot_mem (all := all) t x
              rw [hal2] at h1
              rw [h1, List.take_of_length_le (by omega)]
            subst hsame
            have hok := Lib.hid hTx.out.ok
            clear hU
            go_wp2_with fail
            refine (Put_any c1 b1 _ _ hX hok.out (by omega)).mono ?_
            rintro e w4 ⟨p4, c4, rfl, hc4, h4, hf4, hp4, hb4, hl4⟩
            have hX4 := hX.below hb4
            have hY4 := hY.below hb4
            have hb40 := hb.trans (hb4.mono hb.size)
            clear hX hY hb4 hb
            go_wp2_with fail
            refine (Put_any c2 b2 _ _ hY4 hok.out (by omega)).mono ?_
            rintro e w5 ⟨p5, c5, rfl, hc5, h5, hf5, hp5, hb5, hl5⟩
            have hX5 := hX4.below hb5
            have hY5 := hY4.below hb5
            have h45 := h4.below hb5
            have hb50 := hb40.trans (hb5.mono hb40.size)
            generalize putB mx = PB at *
            clear hX4 hY4 h4 hb5 hb40
            go_wp2_with fail
            refine (SameBytes_yes _ _ _ _ _ _ _ h45 h5 (by omega)).mono ?_
            rintro e w6 ⟨rfl, hb6⟩
            have hX6 := hX5.below hb6
            have hY6 := hY5.below hb6
            have hb60 := hb50.trans (hb6.mono hb50.size)
            clear hX5 hY5 h45 h5 hb6 hb50
            go_wp2_with fail
            refine (At_any c1 b1 _ _ hX6).mono ?_
            rintro e w7 ⟨rfl, rfl⟩
            go_wp2_with fail
            refine (At_any c2 b2 _ _ hY6).mono ?_
            rintro e w7 ⟨rfl, rfl⟩
            have tq : ((mx.num : Int) == (mx.num : Int)) = true := beq_self_eq_true _
            go_wp2_with fail
            refine (Kept_any c1 b1 _ _ hX6 hok.out (by omega)).mono ?_
            rintro e w7 ⟨p7, c7, rfl, h7, hf7, hb7⟩
            have hY7 := hY6.below hb7
            have hb70 := hb60.trans (hb7.mono hb60.size)
            clear hX6 hY6 hb7 hb60
            go_wp2_with fail
            refine (Kept_any c2 b2 _ _ hY7 hok.out (by omega)).mono ?_
            rintro e w8 ⟨p8, c8, rfl, h8, hf8, hb8⟩
            have h78 := h7.below hb8
            have hb80 := hb70.trans (hb8.mono hb70.size)
            have hfew := hok.out.few
            generalize mx.ks.length = KL at *
            generalize numsK mx.ks = KN at *
            clear hY7 h7 hb8 hb70
            go_wp2_with fail
            refine (SameInts_yes _ _ _ _ _ _ _ h78 h8 (by omega)).mono ?_
            rintro e w9 ⟨rfl, hb9⟩
            have hb90 := hb80.trans (hb9.mono hb80.size)
            clear h78 h8 hb9 hb80
            go_wp2_with fail
            refine (lives_any _).mono ?_
            rintro e w10 ⟨rfl, hb10⟩
            go_wp2_with fail
            go_ret
            exact ⟨rfl, hb90.trans (hb10.mono hb90.size)⟩
end Go.Proofs.Ytcnhgkgabddjmaa
