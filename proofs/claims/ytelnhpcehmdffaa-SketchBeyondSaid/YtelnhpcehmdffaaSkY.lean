/-
  Sketches of unlike numbers of values; two lists that fit.
-/
import Derived.Test.YtelnhpcehmdffaaGz
namespace Go.Proofs.Ytelnhpcehmdffaa
open Go.RowKit
attribute [local go_sem] T_V

set_option maxRecDepth 100000 in
set_option maxHeartbeats 1000000 in
theorem Diff_arg (pa pb : Option Addr) (n m ca cb na nb : Nat) (w : World) (hne : n ≠ m) :
    Calls Try.prog 15 #[.agg #[.int .i64 na, .slice pa n ca], .agg #[.int .i64 nb, .slice pb m cb]] w fun e w' => e = .returned (.tuple #[.slice none 0 0, .slice none 0 0, .int .i64 1]) ∧ Below w.heap.size w w' := by
  have hA1 : Arr ((w.alloc (.cells #[.int .i64 na, .slice pa n ca] 30)).alloc (.cells #[.int .i64 nb, .slice pb m cb] 30)) w.heap.size 30 [.int .i64 na, .slice pa n ca] :=
    (Arr.new w 30 [.int .i64 na, .slice pa n ca]).below ((Below.refl (w.heap.size + 1) _).alloc (by simp) _) (by omega)
  have hA2 : Arr ((w.alloc (.cells #[.int .i64 na, .slice pa n ca] 30)).alloc (.cells #[.int .i64 nb, .slice pb m cb] 30)) (w.heap.size + 1) 30 [.int .i64 nb, .slice pb m cb] := by
    have := Arr.new (w.alloc (.cells #[.int .i64 na, .slice pa n ca] 30)) 30 [.int .i64 nb, .slice pb m cb]
    have hs : (w.alloc (.cells #[.int .i64 na, .slice pa n ca] 30)).heap.size = w.heap.size + 1 := by simp
    rwa [hs] at this
  have hb0 : Below w.heap.size w ((w.alloc (.cells #[.int .i64 na, .slice pa n ca] 30)).alloc (.cells #[.int .i64 nb, .slice pb m cb] 30)) := ((Below.refl _ _).alloc (Nat.le_refl _) _).alloc (by simp) _
  have ka1 := hA1.cell (i := 1) (by simp)
  have kb1 := hA2.cell (i := 1) (by simp)
  replace ka1 : (((w.alloc (.cells #[.int .i64 na, .slice pa n ca] 30)).alloc (.cells #[.int .i64 nb, .slice pb m cb] 30))).cell? ⟨w.heap.size, 1, none⟩ = some (.slice pa n ca) := ka1
  replace kb1 : (((w.alloc (.cells #[.int .i64 na, .slice pa n ca] 30)).alloc (.cells #[.int .i64 nb, .slice pb m cb] 30))).cell? ⟨w.heap.size + 1, 1, none⟩ = some (.slice pb m cb) := kb1
  have tne : ((n : Int) != m) = true := bne_iff_ne.2 (by omega)
  clear hne
  go_enter Try.func15, Try.ntmps15
  go_wp2_with fail
  go_ret3
  exact ⟨rfl, hb0⟩
theorem keep2b {wl W : World} {b o b' o' : Nat} {v v' : Value} (h : Below wl.heap.size wl W) (h1 : wl.cell? ⟨b, o, none⟩ = some v) (h2 : wl.cell? ⟨b', o', none⟩ = some v') : (W.cell? ⟨b, o, none⟩ = some v ∧ W.cell? ⟨b', o', none⟩ = some v') ∧ Below wl.heap.size wl W :=
  ⟨⟨(h.cell (cell_lt h1)).trans h1, (h.cell (cell_lt h2)).trans h2⟩, h⟩
theorem Value_b {p : Option Addr} {n : Nat} {L : List F} (c : Nat) {z : F} {w0 w : World} (hb : Below w0.heap.size w0 w) (hX : U w0 p n (L.map V)) (hn : n ≤ 1000000) :
    Calls Try.prog 37 #[.slice p n c, .int .u64 (V z)] w fun e w' => e = .returned (.int .u64 (V (valF L z))) ∧ Below w0.heap.size w0 w' :=
  (Value_any p n _ c z w (hX.below hb) hn).mono fun e w' ⟨h1, h2⟩ => ⟨by rw [map_TV] at h1; exact h1, hb.trans (h2.mono hb.size)⟩
theorem Has_no {p : Option Addr} {n : Nat} {xs : List Int} (c : Nat) {x : Int} {w : World} (hU : U w p n xs) (hn : n ≤ 1000000) (hx : x ∉ xs) :
    Calls Try.prog 26 #[.slice p n c, .int .u64 x] w fun e w' => e = .returned (.bool false) ∧ w' = w :=
  (Has_any p n xs c x w hU hn).mono fun _ _ ⟨h, hw⟩ => ⟨h.elim (fun h => absurd h.2 hx) fun h => h.1, hw⟩
theorem nodup_take {L : List F} (hd : L.Nodup) {k : Nat} (hk : k < L.length) : V L[k] ∉ (L.map V).take k := fun h => by
  rw [← List.map_take] at h
  have h2 := mem_V.1 h
  obtain ⟨j, hj, e⟩ := List.mem_iff_getElem.1 h2
  rw [List.getElem_take] at e
  rw [List.length_take] at hj
  exact List.pairwise_iff_getElem.1 hd j k (by omega) hk (by omega) e
set_option maxRecDepth 100000 in
set_option maxHeartbeats 4000000 in
theorem Fit_yes {p1 p2 pa pb : Option Addr} {n na nb : Nat} {X Y L M : List F} (c1 c2 ca cb : Nat) {w : World} (h1 : U w p1 X.length (X.map V)) (h2 : U w p2 Y.length (Y.map V)) (hp1 : p1 = none → c1 = 0) (hp2 : p2 = none → c2 = 0) (hA : U w pa n ((valsL L n).map V)) (hB : U w pb n ((valsL M n).map V)) (hf : FitsS n L M X Y) (hn : n ≤ 100) (hL : L.length = na) (hM : M.length = nb) (hna : na ≤ 1000) (hnb : nb ≤ 1000) :
    Calls Try.prog 20 #[.slice p1 X.length c1, .slice p2 Y.length c2, .int .i64 na, .slice pa n ca, .int .i64 nb, .slice pb n cb] w fun e w' => e = .returned (.bool true) ∧ Below w.heap.size w w' := by
  subst hL hM
  have hfew := hf.few
  have hdiff := hf.diff
  have hxy : (X ++ Y).length = X.length + Y.length := List.length_append
  have hnd : Hid ((X ++ Y).Nodup) := Lib.hid (List.nodup_append.2 ⟨hf.ndX, hf.ndY, fun a ha b hb e => hf.disj a ha (e ▸ hb)⟩)
  have hbd : Hid (∀ x, x ∈ X ++ Y → 1 ≤ V x ∧ V x ≤ 1152921504606846976) := Lib.hid fun x hx => (List.mem_append.1 hx).elim (hf.rX x) (hf.rY x)
  have heq : Hid (∀ k, k < n → valF L (ptF k) * valF Y (ptF k) = valF M (ptF k) * valF X (ptF k)) := Lib.hid fun k hk => hf.eqs k hk
  clear hf
  obtain ⟨x, hx⟩ : ∃ x, X.length = x := ⟨_, rfl⟩
  obtain ⟨y, hy⟩ : ∃ y, Y.length = y := ⟨_, rfl⟩
  obtain ⟨l, hl⟩ : ∃ l, L.length = l := ⟨_, rfl⟩
  obtain ⟨m, hm⟩ : ∃ m, M.length = m := ⟨_, rfl⟩
  obtain ⟨s, hs⟩ : ∃ s, x + y = s := ⟨_, rfl⟩
  obtain ⟨d, hd⟩ : ∃ d : Int, (l : Int) - m = d := ⟨_, rfl⟩
  obtain ⟨t, ht⟩ : ∃ t : Nat, (n : Int) - 2 = t := ⟨n - 2, by omega⟩
  rw [hx] at hfew hdiff h1 hxy ⊢
  rw [hy] at hfew hdiff h2 hxy ⊢
  rw [hl] at hdiff hna ⊢
  rw [hm] at hdiff hnb ⊢
  rw [hd] at hdiff
  rw [hs] at hxy
  have hsi : (x : Int) + y = s := by omega
  have t1 : ((n : Int) != n) = false := bne_self_eq_false _
  have t2 : decide ((t : Int) < s) = false := by rw [decide_eq_false_iff_not]; omega
  have t2' : decide (t < s) = false := by rw [decide_eq_false_iff_not]; omega
  have t3 : (d != d) = false := bne_self_eq_false _
  have hsm : s ≤ 100 := by omega
  replace hxy := Lib.hid hxy
  have ho0 := Own.none_at w
  have hb0 : Below w.heap.size w (w.alloc (.cells #[] 40)) := Below.lit w _
  have hl1 := h1.below hb0
  have hz0 := hb0.size
  clear hx hy hl hm hs hfew
  go_enter Try.func20, Try.ntmps20
  go_wp2_with (first
    | (at_builtin; (with_reducible refine app_many rfl _ _ rfl ho0 rfl rfl hl1 hp1 (by omega) hz0 ?_); (intro v6 w6 ho6 hb6; rw [Nat.zero_add, List.nil_append] at ho6; have hb06 := hb0.trans hb6; have hl2 := h2.below hb06; clear ho0 hl1))
    | (at_builtin; (with_reducible refine app_many rfl _ _ rfl ho6 rfl rfl hl2 hp2 (by omega) hb06.size ?_); (intro v7 w7 ho7 hb7; have hb07 := hb06.trans hb7; clear ho6 hl2)))
  have es : x + y = s := by omega
  rw [es, ← List.map_append] at ho7
  obtain ⟨p7, c7, rfl, hc7, h7, hp7⟩ := ho7.u'
  clear hb0 hb6 hb7 hb06 hz0 ho7
  go_loopw [14] (fun iv wr => ∃ i : Nat, i ≤ s ∧ iv = .int .i64 i ∧ Below w7.heap.size w7 wr) (fun iv _ => s - (intOf iv).toNat)
  case atStart => exact ⟨0, Nat.zero_le _, rfl, Below.refl _ _⟩
  case round =>
    obtain ⟨i, hi, rfl, hbr⟩ := hrel
    by_cases hlt : i < s
    · have h7r := h7.below hbr
      have hix : i < (X ++ Y).length := by rw [hxy.out]; exact hlt
      obtain ⟨b, off, rfl, _, hcell, _, _⟩ := h7r.look hlt
      rw [nth_V hix] at hcell
      have hb1 := hbd.out _ (List.getElem_mem hix)
      have hno := nodup_take hnd.out hix
      have hU7 := h7r.take hi
      generalize (X ++ Y)[i] = z at *
      have d1 : decide (V z < 1) = false := by rw [decide_eq_false_iff_not]; omega
      have d2 : decide (1152921504606846976 < V z) = false := by rw [decide_eq_false_iff_not]; omega
      have it0 : (0 : Int) ≤ (i : Int) := by omega
      have it1 : (i : Int) < (s : Int) := by omega
      have hic : i ≤ c7 := by omega
      have hsl := slice_to (some ⟨b, off, none⟩) s c7 i hic
      replace hno := Lib.hid hno
      clear hix hb1
      go_wp2_with fail
      go_quiet ((go_at_call 26; exact Calls.quiet_of_same (Has_no c7 (hU7.below (below_drewN (Below.refl _ _) _)) (by omega) hno.out)))
      go_wp2_with fail
      go_roundw
      case rel => exact ⟨i + 1, by omega, by go_num, below_drewN hbr _⟩
      case measure => simp [intOf]; omega
    · have hb8 := hb07.trans (hbr.mono hb07.size)
      replace hA := hA.below hb8
      replace hB := hB.below hb8
      replace h1 := h1.below hb8
      replace h2 := h2.below hb8
      obtain ⟨w8, e8⟩ : ∃ w8, Hid (wr = w8) := ⟨_, Lib.hid rfl⟩
      rw [e8.out] at hb8 hA hB h1 h2 ⊢
      clear hbr hb07 e8 h7
      go_wp2_with fail
      go_loopw [15] (fun kv wr => ∃ k : Nat, k ≤ n ∧ kv = .int .i64 k ∧ Below w8.heap.size w8 wr) (fun kv _ => n - (intOf kv).toNat)
      case atStart => exact ⟨0, Nat.zero_le _, rfl, Below.refl _ _⟩
      case round =>
        obtain ⟨k, hk, rfl, hbr⟩ := hrel
        by_cases hlk : k < n
        · obtain ⟨ga, oa, rfl, _, ya, _, _⟩ := (hA.below hbr).look hlk
          obtain ⟨gb, ob, rfl, _, yb, _, _⟩ := (hB.below hbr).look hlk
          rw [nth_vals hlk] at ya yb
          have h1r := h1.below hbr
          have h2r := h2.below hbr
          have hbwr : Below wr.heap.size wr wr.drew := (Below.refl _ _).drew
          have tz : (V (valF L (ptF k) * valF Y (ptF k)) != V (valF M (ptF k) * valF X (ptF k))) = false := by rw [heq.out k hlk]; exact bne_self_eq_false _
          have it0 : (0 : Int) ≤ (k : Int) := by omega
          have it1 : (k : Int) < (n : Int) := by omega
          go_wp2_with fail
          go_region_held3 (fun W => (W.cell? ⟨ga, oa + k, none⟩ = some (.int .u64 (V (valF L (ptF k)))) ∧ W.cell? ⟨gb, ob + k, none⟩ = some (.int .u64 (V (valF M (ptF k))))) ∧ Below wr.heap.size wr W) (exact keep2b (by assumption) ya yb) (first
            | (go_simp; go_at_call 38; (with_reducible refine (rpoint_any k _ (by omega)).mono ?_); rintro e w9 ⟨rfl, rfl⟩)
            | (go_simp; go_at_call 37; (with_reducible refine (Value_b c2 (by assumption) h2r (by omega)).mono ?_); rintro e w9 ⟨rfl, hb9⟩)
            | (go_simp; go_at_call 37; (with_reducible refine (Value_b c1 (by assumption) h1r (by omega)).mono ?_); rintro e w9 ⟨rfl, hb9⟩)
            | (go_simp; go_at_call 36; (with_reducible refine (rmul_b (by assumption) _ _ (V_lo _) (V_64 _) (V_lo _) (V_64 _)).mono ?_); rintro e w10 ⟨rfl, hb10⟩)
            | fail)
          go_wp2_with fail
          go_roundw
          case rel => exact ⟨k + 1, by omega, by go_num, hbr.trans (hb10.mono hbr.size)⟩
          case measure => simp [intOf]; omega
        · go_wp2_with fail
          go_ret
          exact ⟨rfl, hb8.trans (hbr.mono hb8.size)⟩
end Go.Proofs.Ytelnhpcehmdffaa
