/-
  The document's chain (3): Key.
-/
import Derived.Test.YtcnhgkgabddjmaaChX
namespace Go.Proofs.Ytcnhgkgabddjmaa
open Go.RowKit Go.Maps

theorem C4.to23 {w : World} {z : Nat} {a b c d : Value} (h : C4 w z a b c d) (c' d' : Value) :
    ∃ w', (w.setCell ⟨z, 2, none⟩ c').setCell ⟨z, 3, none⟩ d' = w' ∧ C4 w' z a b c' d' ∧ Two w w' z z :=
  ⟨_, rfl, (h.put (j := 2) (u := c') (a' := a) (b' := b) (c' := c') (d' := d) rfl).put (j := 3) (u := d') rfl,
    (Two.of_grown (grown_cell w z 2 c') (.inl rfl)).trans (Two.of_grown (grown_cell _ z 3 d') (.inl rfl))⟩
theorem C4.belowB {w w' : World} {z B : Nat} {a b c d : Value} (h : C4 w z a b c d) (hb : Below B w w') (hz : z < B) : C4 w' z a b c d := (hb.block z hz).trans h
def lenOf : Value → Nat | .slice _ n _ => n | _ => 0
/-- A list that is the old one, or a new one. -/
def FrP (w : World) (p p' : Option Addr) : Prop := ∀ a, p' = some a → p = some a ∨ w.heap.size ≤ a.block
/-- What the document's chain is: its lists read as what is kept. -/
def RefAt (w : World) (m : Ch) (pn pk : Option Addr) (L : Nat) : Prop := m.ks.length = L ∧ UI w pn L (numsK m.ks) ∧ U w pk L (valsK m.ks)
set_option maxRecDepth 100000 in
set_option maxHeartbeats 8000000 in
theorem rKey_any (m : Ch) (pn pk : Option Addr) (cn ck L : Nat) (n : Int) (w : World) (hR : RefAt w m pn pk L) (hok : m.Ok) (hnum : m.num ≤ 1152921504606846976) (n0 : -9223372036854775808 ≤ n) (n1 : n ≤ 9223372036854775807) (m' : Ch) (k er : Int) (he : m.ask n = (m', k, er)) :
    Calls Try.prog 26 #[.agg #[.int .i64 m.num, .int .u64 m.st, .slice pn L cn, .slice pk L ck], .int .i64 n] w fun e w' => ∃ pn' pk' cn' ck' L', e = .returned (.tuple #[.agg #[.int .i64 m'.num, .int .u64 m'.st, .slice pn' L' cn', .slice pk' L' ck'], .int .u64 k, .int .i64 er]) ∧ RefAt w' m' pn' pk' L' ∧ FrP w pn pn' ∧ FrP w pk pk' ∧ Below w.heap.size w w' := by
  obtain ⟨hL, hN, hK⟩ := hR
  have hst := hok.st64
  have hfew := hok.few
  have hrise := hok.rise
  replace hok := Lib.hid hok
  replace hrise := Lib.hid hrise
  obtain ⟨hA, hB, hb⟩ := two_boxes w (.int .i64 m.num) (.int .u64 m.st) (.slice pn L cn) (.slice pk L ck)
  obtain ⟨a0, a1, a2, a3, _⟩ := hA.cells
  obtain ⟨b0, b1, b2, b3, e0, e1, e2, e3⟩ := hB.cells
  by_cases hz : m.st = 0
  · have t : (m.st == 0) = true := by rw [hz]; rfl
    rw [Ch.ask_zero n hz] at he
    injection he with h1 h2
    injection h2 with h2 h3
    replace h2 := Lib.hid h2
    replace h3 := Lib.hid h3
    subst h1
    replace hz := Lib.hid hz
    replace hL := Lib.hid hL
    go_enter Try.func26, Try.ntmps26
    go_wp2_with fail
    refine bodyPost_ret (v := .tuple #[.agg #[.int .i64 m.num, .int .u64 m.st, .slice pn L cn, .slice pk L ck], .int .u64 0, .int .i64 25]) ?_ rfl ?_
    · rw [results_cell_tmp2 rfl]; go_simp
    · have hbF : Below w.heap.size w ((w.alloc (.cells #[.int .i64 m.num, .int .u64 m.st, .slice pn L cn, .slice pk L ck] 46)).alloc (.cells #[.int .i64 m.num, .int .u64 m.st, .slice pn L cn, .slice pk L ck] 46)) := (Below.lit w _).alloc (by rw [World.size_alloc]; omega) _
      exact ⟨pn, pk, cn, ck, L, by rw [h2.out, h3.out], ⟨hL.out, hN.below hbF, hK.below hbF⟩, fun _ h => .inl h, fun _ h => .inl h, hbF⟩
  · have t : (m.st == 0) = false := beq_eq_false_iff_ne.2 hz
    replace hz := Lib.hid hz
    replace hL := Lib.hid hL
    go_enter Try.func26, Try.ntmps26
    go_wp2_with fail
    have hz0 : w.heap.size + 2 ≤ ((w.alloc (.cells #[.int .i64 m.num, .int .u64 m.st, .slice pn L cn, .slice pk L ck] 46)).alloc (.cells #[.int .i64 0, .int .u64 0, .slice none 0 0, .slice none 0 0] 46)).heap.size := by rw [World.size_alloc, World.size_alloc]; omega
    clear a0 a1 a2 a3 b0 b1 b2 b3 e0 e1 e2 e3
    generalize (w.alloc (.cells #[.int .i64 m.num, .int .u64 m.st, .slice pn L cn, .slice pk L ck] 46)).alloc (.cells #[.int .i64 0, .int .u64 0, .slice none 0 0, .slice none 0 0] 46) = w1 at *
    obtain ⟨z, hzz⟩ : ∃ z, z = w.heap.size := ⟨_, rfl⟩
    rw [← hzz] at hA hB hb hz0 ⊢
    replace hzz := Lib.hid hzz
    go_loopw [7, 8, 9, 10, 11] (fun ns kk found key i W => ∃ (j t : Nat) (k0 : Int), j ≤ L ∧ t ≤ j ∧ i = .int .i64 j ∧ OwnI W (z + 2) ns t (numsK (dropK (m.ks.take j) n)) ∧ Own W (z + 2) kk t (valsK (dropK (m.ks.take j) n)) ∧ Sep ns kk ∧ found = .bool (valK (m.ks.take j) n).isSome ∧ key = .int .u64 k0 ∧ 
        Hid (∀ v, valK (m.ks.take j) n = some v → k0 = v) ∧ Below (z + 2) w1 W)
      (fun _ _ _ _ i _ => L - (intOf i).toNat)
    case atStart => exact ⟨0, 0, 0, by omega, by omega, rfl, OwnI.nil _ _, Own.nil _ _, Sep.nil, rfl, rfl, Lib.hid (fun v h => by cases h), Below.refl _ _⟩
    case round =>
      obtain ⟨j, t, k0, hj, htj, rfl, hO, hP, hS, rfl, rfl, hk0, hbl⟩ := hrel
      have hA2 := hA.belowB hbl (by omega)
      have hB2 := hB.belowB hbl (by omega)
      obtain ⟨a0, a1, a2, a3, f0, f1, f2, f3⟩ := hA2.cells
      by_cases hlt : j < L
      · have hjl : j < m.ks.length := by rw [hL.out]; exact hlt
        have hbw : Below w.heap.size w wr := by rw [← hzz.out]; exact hb.trans (hbl.mono (by omega))
        obtain ⟨bn, on, rfl, _, hcn, hn0, hn1⟩ := (hN.below hbw).look hlt
        obtain ⟨bk, ok, rfl, hbk0, hck0, hv0, hv1⟩ := hK.look hlt
        have hbkz : bk < z + 2 := by have := hzz.out; omega
        have hck := (World.cell?_of_block (hbw.block bk hbk0)).trans hck0
        clear hck0 hbk0
        have hfs := found_snoc hrise.out hjl n
        have htk := List.take_succ_eq_append_getElem hjl
        have hds := dropK_snoc (m.ks.take j) m.ks[j] n
        rw [← htk] at hds
        rw [nth_numsK hjl] at hcn hn0 hn1
        rw [nth_valsK hjl] at hck hv0 hv1
        generalize m.ks[j] = pr at *
        obtain ⟨p1, p2⟩ := pr
        dsimp only at hcn hn0 hn1 hck hv0 hv1 hfs hds
        replace htk := Lib.hid htk
        by_cases heq : p1 = n
        · rw [if_pos heq] at hfs hds
          have tq : (p1 == n) = true := beq_iff_eq.2 heq
          rw [← hds] at hO hP
          have r1 : Hid (Value.bool true = .bool (valK (m.ks.take (j + 1)) n).isSome) := Lib.hid (by rw [← hfs]; rfl)
          have r2 : Hid (∀ v, valK (m.ks.take (j + 1)) n = some v → p2 = v) := Lib.hid (fun v hv => by rw [← hfs] at hv; injection hv)
          replace heq := Lib.hid heq
          replace hfs := Lib.hid hfs
          replace hds := Lib.hid hds
          go_wp2_with fail
          go_roundw
          case rel => exact ⟨j + 1, t, p2, by omega, by omega, by go_num, hO, hP, hS, r1.out, rfl, r2, hbl⟩
          case measure => simp [intOf]; omega
        · rw [if_neg heq] at hfs hds
          have tq : (p1 == n) = false := beq_eq_false_iff_ne.2 heq
          have r1 : Hid (Value.bool (valK (m.ks.take j) n).isSome = .bool (valK (m.ks.take (j + 1)) n).isSome) := Lib.hid (by rw [← hfs])
          have r2 : Hid (∀ v, valK (m.ks.take (j + 1)) n = some v → k0 = v) := Lib.hid (fun v hv => hk0.out v (by rw [hfs]; exact hv))
          have e1 := numsK_snoc (dropK (m.ks.take j) n) (p1, p2)
          have e2 := valsK_snoc (dropK (m.ks.take j) n) (p1, p2)
          rw [← hds] at e1 e2
          replace heq := Lib.hid heq
          replace hfs := Lib.hid hfs
          replace hds := Lib.hid hds
          replace e1 := Lib.hid e1
          replace e2 := Lib.hid e2
          have hsz : z + 2 ≤ wr.heap.size := by have := hbl.size; omega
          go_wp2_with (first
            | (at_builtin; refine app_i2 (y := p1) rfl _ _ rfl hO hP hS rfl rfl ⟨hn0, hn1⟩ (by omega) hsz ?_; intro v4 w4 hO4 hP4 hS4 hb4; have hA4 := (hA.belowB hbl (by omega)).belowB hb4 (by omega); obtain ⟨a0, a1, a2, a3, _⟩ := hA4.cells; have hck := (World.cell?_of_block (hb4.block bk hbkz)).trans hck)
            | (at_builtin; refine app_u2 (y := p2) rfl _ _ rfl hP4 hO4 hS4.symm rfl rfl ⟨hv0, hv1⟩ (by omega) (Nat.le_trans hsz hb4.size) ?_; intro v5 w5 hP5 hO5 hS5 hb5))
          go_roundw
          case rel => exact ⟨j + 1, t + 1, k0, by omega, by omega, by go_num, by rw [e1.out]; exact hO5, by rw [e2.out]; exact hP5, hS5.symm, r1.out, rfl, r2, hbl.trans (hb4.trans hb5)⟩
          case measure => simp [intOf]; omega
      · obtain rfl : j = L := by omega
        have hall : m.ks.take j = m.ks := List.take_of_length_le (by rw [hL.out]; exact Nat.le_refl _)
        rw [hall] at hO hP hk0 ⊢
        have hbw : Below w.heap.size w wr := by rw [← hzz.out]; exact hb.trans (hbl.mono (by omega))
        have hsz : z + 2 ≤ wr.heap.size := by have := hbl.size; omega
        replace hall := Lib.hid hall
        obtain ⟨hpn, cpn, rfl, _, hUN, hFN⟩ := hO.u
        obtain ⟨hpk, cpk, rfl, _, hUK, hFK⟩ := hP.uf
        cases hv : valK m.ks n with
        | some v =>
          have hkv := hk0.out v hv
          subst hkv
          rw [Ch.ask_some hz.out hv] at he
          injection he with h1 h2
          injection h2 with h2 h3
          replace h2 := Lib.hid h2
          replace h3 := Lib.hid h3
          subst h1
          have hdl := dropK_len hrise.out n
          rw [hv] at hdl
          have ht : Hid ((dropK m.ks n).length = t) := Lib.hid (by have := hUN.len; unfold numsK at this; rwa [List.length_map] at this)
          obtain ⟨w2, hw2, hA3, hT3⟩ := hA2.to23 (.slice hpn t cpn) (.slice hpk t cpk)
          obtain ⟨g0, g1, g2, g3, _⟩ := hA3.cells
          have hB3 := hB2.two hT3 (by omega) (by omega)
          have hUN3 := hUN.two hT3 (fun a ha => by have := hFN a ha; omega)
          have hUK3 := hUK.two hT3 (fun a ha => by have := hFK a ha; omega)
          obtain ⟨b0, b1, b2, b3, e0, e1, e2, e3⟩ := hB3.cells
          obtain ⟨w9, hw9, hS9, hT9⟩ := hB3.to (.int .i64 m.num) (.int .u64 m.st) (.slice hpn t cpn) (.slice hpk t cpk)
          obtain ⟨d0, d1, d2, d3, _⟩ := hS9.cells
          have hUN9 := hUN3.two hT9 (fun a ha => by have := hFN a ha; omega)
          have hUK9 := hUK3.two hT9 (fun a ha => by have := hFK a ha; omega)
          have hbw9 : Below w.heap.size w w9 := (Two.below0 (Two.below0 hbw hT3 (by have := hzz.out; omega) (by have := hzz.out; omega)) hT9 (by have := hzz.out; omega) (by have := hzz.out; omega))
          replace hv := Lib.hid hv
          clear hA2 hB2 hA3 hB3 hT3 hT9 hS9 hUN hUK hUN3 hUK3 hbw hO hP hS hbl hk0 hA hB hb hN hK hdl
          go_wp2_with fail
          refine bodyPost_ret (v := .tuple #[.agg #[.int .i64 m.num, .int .u64 m.st, .slice hpn t cpn, .slice hpk t cpk], .int .u64 k0, .int .i64 0]) ?_ rfl ?_
          · rw [results_cell_tmp2 rfl]; go_simp
          · exact ⟨hpn, hpk, cpn, cpk, t, by rw [h2.out, h3.out], ⟨ht.out, hUN9, hUK9⟩, fun a ha => .inr (by have := hFN a ha; have := hzz.out; omega), fun a ha => .inr (by have := hFK a ha; have := hzz.out; omega), hbw9⟩
        | none =>
          rw [Option.isSome_none]
          have hdrop := dropK_same hv
          rw [hdrop] at hUN hUK hO hP
          have htl : t = j := by have := hUN.len; unfold numsK at this; rw [List.length_map, hL.out] at this; exact this.symm
          subst htl
          replace hdrop := Lib.hid hdrop
          by_cases hlt2 : n < m.num
          · rw [Ch.ask_used hz.out hv hlt2] at he
            injection he with h1 h2
            injection h2 with h2 h3
            replace h2 := Lib.hid h2
            replace h3 := Lib.hid h3
            subst h1
            have tl : decide (n < (m.num : Int)) = true := decide_eq_true hlt2
            replace hv := Lib.hid hv
            obtain ⟨b0, b1, b2, b3, e0, e1, e2, e3⟩ := hB2.cells
            obtain ⟨w9, hw9, hS9, hT9⟩ := hB2.to (.int .i64 m.num) (.int .u64 m.st) (.slice pn t cn) (.slice pk t ck)
            obtain ⟨d0, d1, d2, d3, _⟩ := hS9.cells
            have hbw9 : Below w.heap.size w w9 := Two.below0 hbw hT9 (by have := hzz.out; omega) (by have := hzz.out; omega)
            have hN9 := hN.below hbw9
            have hK9 := hK.below hbw9
            clear hA2 hB2 hT9 hS9 hUN hUK hbw hO hP hS hbl hk0 hA hB hb hN hK hlt2
            go_wp2_with fail
            refine bodyPost_ret (v := .tuple #[.agg #[.int .i64 m.num, .int .u64 m.st, .slice pn t cn, .slice pk t ck], .int .u64 0, .int .i64 24]) ?_ rfl ?_
            · rw [results_cell_tmp2 rfl]; go_simp
            · exact ⟨pn, pk, cn, ck, t, by rw [h2.out, h3.out], ⟨hL.out, hN9, hK9⟩, fun _ h => .inl h, fun _ h => .inl h, hbw9⟩
          · have tl : decide (n < (m.num : Int)) = false := decide_eq_false hlt2
            obtain ⟨df, hdf⟩ : ∃ df : Nat, n = m.num + df := ⟨(n - m.num).toNat, by omega⟩
            by_cases hf : 50 - (m.ks.length : Int) < n - m.num
            · rw [Ch.ask_full hz.out hv hlt2 hf] at he
              injection he with h1 h2
              injection h2 with h2 h3
              replace h2 := Lib.hid h2
              replace h3 := Lib.hid h3
              subst h1
              rw [hL.out] at hf
              have tf : decide ((50 : Int) - (t : Int) < n - (m.num : Int)) = true := decide_eq_true hf
              replace hv := Lib.hid hv
              obtain ⟨b0, b1, b2, b3, e0, e1, e2, e3⟩ := hB2.cells
              obtain ⟨w9, hw9, hS9, hT9⟩ := hB2.to (.int .i64 m.num) (.int .u64 m.st) (.slice pn t cn) (.slice pk t ck)
              obtain ⟨d0, d1, d2, d3, _⟩ := hS9.cells
              have hbw9 : Below w.heap.size w w9 := Two.below0 hbw hT9 (by have := hzz.out; omega) (by have := hzz.out; omega)
              have hN9 := hN.below hbw9
              have hK9 := hK.below hbw9
              have hw1 : IntKind.i64.wrap (n - (m.num : Int)) = n - (m.num : Int) := IntWalk.i64_in _ (by omega)
              have htt : t ≤ 50 := by have := hL.out; omega
              replace hdf := Lib.hid hdf
              clear hA2 hB2 hT9 hS9 hUN hUK hbw hO hP hS hbl hk0 hA hB hb hN hK hlt2 hf
              go_wp2_with fail
              refine bodyPost_ret (v := .tuple #[.agg #[.int .i64 m.num, .int .u64 m.st, .slice pn t cn, .slice pk t ck], .int .u64 0, .int .i64 3]) ?_ rfl ?_
              · rw [results_cell_tmp2 rfl]; go_simp
              · exact ⟨pn, pk, cn, ck, t, by rw [h2.out, h3.out], ⟨hL.out, hN9, hK9⟩, fun _ h => .inl h, fun _ h => .inl h, hbw9⟩
            · rw [Ch.ask_ok hz.out hv hlt2 hf] at he
              have hdn : (n - (m.num : Int)).toNat = df := by omega
              rw [hdn] at he
              injection he with h1 h2
              injection h2 with h2 h3
              replace h2 := Lib.hid h2
              replace h3 := Lib.hid h3
              subst h1
              rw [hL.out] at hf
              have tf : decide ((50 : Int) - (t : Int) < n - (m.num : Int)) = false := decide_eq_false hf
              replace hv := Lib.hid hv
              have hw1 : IntKind.i64.wrap (n - (m.num : Int)) = n - (m.num : Int) := IntWalk.i64_in _ (by omega)
              have htt : t ≤ 50 := by have := hL.out; omega
              have htd : t + df ≤ 50 := by omega
              have hzw := hzz.out
              have hfz : ∀ j, (m.fill j).st ≠ 0 := fun j => Ch.fill_st hz.out j
              have hfo : ∀ j, j ≤ df → (m.fill j).Ok := fun j hj => hok.out.fill (by rw [hL.out]; omega)
              replace hfz := Lib.hid hfz
              replace hfo := Lib.hid hfo
              replace hdf := Lib.hid hdf
              replace hdn := Lib.hid hdn
              replace hzw := Lib.hid hzw
              clear hUN hUK hbl hk0 hA hB hb hlt2 hf
              go_wp2_with fail
              go_loopw [7, 8] (fun ns kk W => ∃ (j q : Nat) (s : Int), j ≤ df ∧ Hid (q = m.num + j) ∧ Hid ((m.fill j).st = s) ∧ C4 W z (.int .i64 q) (.int .u64 s) (.slice pn t cn) (.slice pk t ck) ∧ C4 W (z + 1) (.int .i64 0) (.int .u64 0) (.slice none 0 0) (.slice none 0 0) ∧
                  OwnI W (z + 2) ns (t + j) (numsK (m.fill j).ks) ∧ Own W (z + 2) kk (t + j) (valsK (m.fill j).ks) ∧ Sep ns kk ∧ z + 2 ≤ W.heap.size ∧ Below w.heap.size w W)
                (fun ns _ _ => t + df - lenOf ns)
              case atStart => exact ⟨0, m.num, m.st, by omega, Lib.hid rfl, Lib.hid rfl, hA2, hB2, hO, hP, hS, hsz, hbw⟩
              case round =>
                clear hA2 hB2 hO hP hS hsz hbw a0 a1 a2 a3 f0 f1 f2 f3
                obtain ⟨j, q, s, hj, hq, hs, hA, hB, hO, hP, hS, hsz, hb⟩ := hrel
                obtain ⟨a0, a1, a2, a3, f0, f1, f2, f3⟩ := hA.cells
                obtain ⟨hpn, cpn, rfl, _, hUN, hFN⟩ := hO.u
                obtain ⟨hpk, cpk, rfl, _, hUK, hFK⟩ := hP.uf
                have hok2 := (hfo.out j hj).st64
                rw [hs.out] at hok2
                have hqn : q ≤ 1152921504606847030 := by have := hq.out; omega
                have hfn := m.fill_num j
                have hky : Hid ((m.fill j).key = secI msgL [s]) := Lib.hid (by rw [← hs.out]; rfl)
                have hsx : Hid ((m.fill (j + 1)).st = secI nextL [s]) := Lib.hid (by rw [← hs.out]; rfl)
                have hsy : Hid ((m.fill j).step.st = secI nextL [s]) := Lib.hid (by rw [← hs.out]; rfl)
                have hks1 : numsK (m.fill (j + 1)).ks = numsK (m.fill j).ks ++ [((m.fill j).num : Int)] := numsK_snoc (m.fill j).ks _
                have hks2 : valsK (m.fill (j + 1)).ks = valsK (m.fill j).ks ++ [(m.fill j).key] := valsK_snoc (m.fill j).ks _
                have hfq : (m.fill j).num = q := by rw [hfn, hq.out]
                rw [hfq] at hks1
                rw [hky.out] at hks2
                have hkb := secI_bd msgL [s]
                obtain ⟨x, hx⟩ : ∃ x, secI nextL [s] = x := ⟨_, rfl⟩
                obtain ⟨ky, hkk⟩ : ∃ ky, secI msgL [s] = ky := ⟨_, rfl⟩
                rw [hkk] at hks2 hkb hky
                rw [hx] at hsx hsy
                replace hks1 := Lib.hid hks1
                replace hks2 := Lib.hid hks2
                replace hx := Lib.hid hx
                replace hkk := Lib.hid hkk
                replace hfn := Lib.hid hfn
                by_cases hlt : j < df
                · have tj : decide ((q : Int) < n) = true := decide_eq_true (by have := hq.out; have := hdf.out; omega)
                  replace hfq := Lib.hid hfq
                  go_wp2_with fail
                  refine (rstep_any q s pn pk t cn t ck _ (by omega) hok2).mono ?_
                  rintro e w4 ⟨rfl, hb4⟩
                  rw [hkk.out, hx.out]
                  have hC := C4.new w4 (.int .i64 0) (.int .u64 0) (.slice none 0 0) (.slice none 0 0)
                  obtain ⟨c0, c1, c2, c3, k0', k1, k2, k3⟩ := hC.cells
                  have hbC := hb4.alloc hb4.size (.cells #[.int .i64 ((q : Int) + 1), .int .u64 x, .slice pn t cn, .slice pk t ck] 46)
                  have hC3 := C4.new w4 (.int .i64 ((q : Int) + 1)) (.int .u64 x) (.slice pn t cn) (.slice pk t ck)
                  have hA5 := hA.below hbC
                  obtain ⟨g0, g1, g2, g3, _⟩ := hC3.cells
                  clear a0 a1 a2 a3 f0 f1 f2 f3
                  obtain ⟨a0, a1, a2, a3, f0, f1, f2, f3⟩ := hA5.cells
                  obtain ⟨w6, hw6, hA6, hT6⟩ := hA5.to (.int .i64 ((q : Int) + 1)) (.int .u64 x) (.slice pn t cn) (.slice pk t ck)
                  have hB6 := (hB.below hbC).two hT6 (by omega) (by omega)
                  have hO6 := (hO.below hbC).two hT6 (by omega) (by omega)
                  have hP6 := (hP.below hbC).two hT6 (by omega) (by omega)
                  have hb6 := Two.below0 (hb.trans (hbC.mono hb.size)) hT6 (by have := hzw.out; omega) (by have := hzw.out; omega)
                  have hsz6 : z + 2 ≤ w6.heap.size := by have := hbC.size; have := hT6.size; omega
                  clear hC hC3 hA hB hO hP hUN hUK hb hb4 hbC hA5 hT6 hsz
                  go_wp2_with (first
                    | (at_builtin; refine app_i2 (y := (q : Int)) rfl _ _ rfl hO6 hP6 hS rfl rfl (by omega) (by omega) hsz6 ?_; intro v7 w7 hO7 hP7 hS7 hb7)
                    | (at_builtin; refine app_u2 (y := ky) rfl _ _ rfl hP7 hO7 hS7.symm rfl rfl (by omega) (by omega) (Nat.le_trans hsz6 hb7.size) ?_; intro v8 w8 hP8 hO8 hS8 hb8))
                  have hb68 := hb7.trans hb8
                  have hbE := hb6.trans (hb68.mono (by have := hzw.out; omega))
                  obtain ⟨hpn', cpn', rfl, _⟩ := hO8.u
                  go_roundw
                  case rel => exact ⟨j + 1, q + 1, x, by omega, Lib.hid (by rw [hq.out]; rfl), hsx, hA6.belowB hb68 (by omega), hB6.belowB hb68 (by omega), by rw [hks1.out]; exact hO8, by rw [hks2.out]; exact hP8, hS8.symm, Nat.le_trans hsz6 hb68.size, hbE⟩
                  case measure => show t + df - (t + j + 1) < t + df - (t + j); omega
                · obtain rfl : j = df := by omega
                  have hqe : (q : Int) = n := by have := hq.out; have := hdf.out; omega
                  have tj : decide ((q : Int) < n) = false := decide_eq_false (by omega)
                  replace hqe := Lib.hid hqe
                  obtain ⟨w2, hw2, hA3, hT3⟩ := hA.to23 (.slice hpn (t + j) cpn) (.slice hpk (t + j) cpk)
                  obtain ⟨g0, g1, g2, g3, _⟩ := hA3.cells
                  have hB3 := hB.two hT3 (by omega) (by omega)
                  have hUN3 := hUN.two hT3 (fun a ha => by have := hFN a ha; omega)
                  have hUK3 := hUK.two hT3 (fun a ha => by have := hFK a ha; omega)
                  have hb3 := Two.below0 hb hT3 (by have := hzw.out; omega) (by have := hzw.out; omega)
                  have hsz3 := hT3.size
                  have hk2 : Hid ((m.fill j).step.ks.length = t + j) := Lib.hid (by show (m.fill j).ks.length = _; rw [m.fill_len, hL.out])
                  have hq2 : Hid ((((m.fill j).step.num : Nat) : Int) = (q : Int) + 1) := Lib.hid (by show (((m.fill j).num + 1 : Nat) : Int) = _; rw [hfq]; rfl)
                  have hkz : Hid ((m.fill j).step.ks = (m.fill j).ks) := Lib.hid rfl
                  replace hfq := Lib.hid hfq
                  clear hA hB hO hP hUN hUK hb hT3
                  go_wp2_with fail
                  refine (rstep_any q s hpn hpk (t + j) cpn (t + j) cpk _ (by omega) hok2).mono ?_
                  rintro e w4 ⟨rfl, hb4⟩
                  rw [hkk.out, hx.out]
                  have hC := C4.new w4 (.int .i64 0) (.int .u64 0) (.slice none 0 0) (.slice none 0 0)
                  obtain ⟨c0, c1, c2, c3, k0', k1, k2, k3⟩ := hC.cells
                  have hbC := hb4.alloc hb4.size (.cells #[.int .i64 ((q : Int) + 1), .int .u64 x, .slice hpn (t + j) cpn, .slice hpk (t + j) cpk] 46)
                  have hC3 := C4.new w4 (.int .i64 ((q : Int) + 1)) (.int .u64 x) (.slice hpn (t + j) cpn) (.slice hpk (t + j) cpk)
                  have hB4 := hB3.below hbC
                  have hUN4 := hUN3.below hbC
                  have hUK4 := hUK3.below hbC
                  have hb40 := hb3.trans (hbC.mono hb3.size)
                  clear g0 g1 g2 g3
                  obtain ⟨g0, g1, g2, g3, _⟩ := hC3.cells
                  obtain ⟨b0, b1, b2, b3, e0, e1, e2, e3⟩ := hB4.cells
                  obtain ⟨w9, hw9, hS9, hT9⟩ := hB4.to (.int .i64 ((q : Int) + 1)) (.int .u64 x) (.slice hpn (t + j) cpn) (.slice hpk (t + j) cpk)
                  obtain ⟨d0, d1, d2, d3, _⟩ := hS9.cells
                  have hUN9 := hUN4.two hT9 (fun a ha => by have := hFN a ha; omega)
                  have hUK9 := hUK4.two hT9 (fun a ha => by have := hFK a ha; omega)
                  have hb9 := Two.below0 hb40 hT9 (by have := hzw.out; omega) (by have := hzw.out; omega)
                  clear hC hC3 hA3 hB3 hUN3 hUK3 hb3 hb4 hbC hB4 hUN4 hUK4 hb40 hT9 hS9
                  go_wp2_with fail
                  refine bodyPost_ret (v := .tuple #[.agg #[.int .i64 ((q : Int) + 1), .int .u64 x, .slice hpn (t + j) cpn, .slice hpk (t + j) cpk], .int .u64 ky, .int .i64 0]) ?_ rfl ?_
                  · rw [results_cell_tmp2 rfl]; go_simp
                  · exact ⟨hpn, hpk, cpn, cpk, t + j, by rw [hq2.out, hsy.out, ← h2.out, hky.out, ← h3.out], ⟨hk2.out, by rw [hkz.out]; exact hUN9, by rw [hkz.out]; exact hUK9⟩, fun a ha => .inr (by have := hFN a ha; have := hzz.out; omega), fun a ha => .inr (by have := hFK a ha; have := hzz.out; omega), hb9⟩
end Go.Proofs.Ytcnhgkgabddjmaa
