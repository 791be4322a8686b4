/-
  The contracts of sketches (3): what fits.
-/
import Derived.Test.YtelnhpcehmdffaaSkH
namespace Go.Proofs.Ytelnhpcehmdffaa
open Go.RowKit
attribute [local go_sem] T_V

theorem SkOf_b {p : Option Addr} {n m : Nat} {xs : List Int} (c : Nat) {w0 w : World} (hb : Below w0.heap.size w0 w) (hX : U w0 p n xs) (hn : n ≤ 1000000) (hm : m < 1000) :
    Calls Try.prog 16 #[.slice p n c, .int .i64 m] w fun e w' => (∃ q d, e = .returned (.agg #[.int .i64 n, .slice q m d]) ∧ U w' q m ((valsL (xs.map T) m).map V)) ∧ Below w.heap.size w w' ∧ Below w0.heap.size w0 w' :=
  (SkOf_any p n xs c m w (hX.below hb) hn hm).mono fun e w' ⟨v, he, ho, hb'⟩ => by
    obtain ⟨q, d, rfl, _, hu⟩ := ho.u
    exact ⟨⟨q, d, he, hu⟩, hb', hb.trans (hb'.mono hb.size)⟩
theorem keep1 {wl W : World} {b o : Nat} {v : Value} (h : Below wl.heap.size wl W) (h1 : wl.cell? ⟨b, o, none⟩ = some v) : W.cell? ⟨b, o, none⟩ = some v ∧ Below wl.heap.size wl W :=
  ⟨(World.cell?_of_block (h.block b (cell_lt h1))).trans h1, h⟩
theorem nth_vals {L : List F} {m k : Nat} (hk : k < m) : nth ((valsL L m).map V) k = V (valF L (ptF k)) := by
  rw [nth_V (by unfold valsL; simpa using hk)]
  congr 1
  unfold valsL
  rw [List.getElem_map, List.getElem_range]
set_option maxRecDepth 100000 in
theorem field_V (i : Int) (q : Option Addr) (n d : Nat) (W : World) : (Instr.field 30 (.agg #[.int .i64 i, .slice q n d]) 1).run Try.prog W = .ok (.slice q n d) W := by kernel_rfl
set_option maxRecDepth 100000 in
set_option maxHeartbeats 4000000 in
theorem fit_any (p1 p2 pa pb : Option Addr) (n1 n2 n c1 c2 ca cb : Nat) (ia ib : Int) (X Y A B : List Int) (w : World) (hX : U w p1 n1 X) (hY : U w p2 n2 Y) (hA : U w pa n A) (hB : U w pb n B) (h1 : n1 ≤ 1000000) (h2 : n2 ≤ 1000000) (hn : n < 1000) :
    Calls Try.prog 33 #[.slice p1 n1 c1, .slice p2 n2 c2, .agg #[.int .i64 ia, .slice pa n ca], .agg #[.int .i64 ib, .slice pb n cb]] w fun e w' => ((e = .returned (.bool true) ∧ ∀ k, k < n → T (nth A k) * valF (Y.map T) (ptF k) = T (nth B k) * valF (X.map T) (ptF k)) ∨ (e = .returned (.bool false) ∧ ¬ ∀ k, k < n → T (nth A k) * valF (Y.map T) (ptF k) = T (nth B k) * valF (X.map T) (ptF k))) ∧ Below w.heap.size w w' := by
  have hA1 : Arr ((w.alloc (.cells #[.int .i64 ia, .slice pa n ca] 30)).alloc (.cells #[.int .i64 ib, .slice pb n cb] 30)) w.heap.size 30 [.int .i64 ia, .slice pa n ca] :=
    (Arr.new w 30 [.int .i64 ia, .slice pa n ca]).below ((Below.refl (w.heap.size + 1) _).alloc (by simp) _) (by omega)
  have hA2 : Arr ((w.alloc (.cells #[.int .i64 ia, .slice pa n ca] 30)).alloc (.cells #[.int .i64 ib, .slice pb n cb] 30)) (w.heap.size + 1) 30 [.int .i64 ib, .slice pb n cb] := by
    have := Arr.new (w.alloc (.cells #[.int .i64 ia, .slice pa n ca] 30)) 30 [.int .i64 ib, .slice pb n cb]
    have hs : (w.alloc (.cells #[.int .i64 ia, .slice pa n ca] 30)).heap.size = w.heap.size + 1 := by simp
    rwa [hs] at this
  have hb0 : Below w.heap.size w ((w.alloc (.cells #[.int .i64 ia, .slice pa n ca] 30)).alloc (.cells #[.int .i64 ib, .slice pb n cb] 30)) := ((Below.refl _ _).alloc (Nat.le_refl _) _).alloc (by simp) _
  go_enter Try.func33, Try.ntmps33
  go_wp2_with fail
  obtain ⟨w1, e1⟩ : ∃ w1, Hid (((w.alloc (.cells #[.int .i64 ia, .slice pa n ca] 30)).alloc (.cells #[.int .i64 ib, .slice pb n cb] 30)) = w1) := ⟨_, Lib.hid rfl⟩
  rw [e1.out] at hA1 hA2 hb0 ⊢
  have k1 : w1.cell? ⟨w.heap.size, 1, none⟩ = some (.slice pa n ca) := hA1.cell (i := 1) (by simp)
  have k2 : w1.cell? ⟨w.heap.size + 1, 1, none⟩ = some (.slice pb n cb) := hA2.cell (i := 1) (by simp)
  replace hX := hX.below hb0
  replace hY := hY.below hb0
  replace hA := hA.below hb0
  replace hB := hB.below hb0
  clear e1 hA1 hA2
  have hb1 : Below w1.heap.size w1 w1.drew := (Below.refl _ _).drew
  have hfv := field_V
  go_region_held3 (fun W => W.cell? ⟨w.heap.size, 1, none⟩ = some (.slice pa n ca) ∧ Below w1.heap.size w1 W) (exact keep1 (by assumption) k1) (first
    | (go_simp; go_at_call 16; (with_reducible refine (SkOf_b c1 (by assumption) hX h1 hn).mono ?_); rintro e wa ⟨⟨q1, d1, rfl, u1⟩, _, hba⟩)
    | (go_simp; go_at_call 16; (with_reducible refine (SkOf_b c2 (by assumption) hY h2 hn).mono ?_); rintro e wb ⟨⟨q2, d2, rfl, u2⟩, hbb, hbc⟩)
    | fail)
  replace u1 := u1.below hbb
  go_wp2_with fail
  go_loopw [27] (fun kv wr => ∃ k : Nat, k ≤ n ∧ kv = .int .i64 k ∧ Below wb.heap.size wb wr ∧ Hid (∀ j, j < k → T (nth A j) * valF (Y.map T) (ptF j) = T (nth B j) * valF (X.map T) (ptF j))) (fun kv _ => n - (intOf kv).toNat)
  case atStart => exact ⟨0, Nat.zero_le _, rfl, Below.refl _ _, Lib.hid fun j h => by omega⟩
  case round =>
    obtain ⟨k, hk, rfl, hbr, hall⟩ := hrel
    have hbw := hbc.trans (hbr.mono hbc.size)
    by_cases hlk : k < n
    · obtain ⟨ba, oa, rfl, ha1, ha2, ha3, ha4⟩ := (hA.below hbw).look hlk
      obtain ⟨b2, o2, rfl, hb2, hb22, hb23, hb24⟩ := (hB.below hbw).look hlk
      obtain ⟨b3, o3, rfl, hb3, hb32, hb33, hb34⟩ := (u1.below hbr).look hlk
      obtain ⟨b4, o4, rfl, hb4, hb42, hb43, hb44⟩ := (u2.below hbr).look hlk
      rw [nth_vals hlk] at hb32 hb42
      have kk1 := (keep1 hbw k1).1
      have kk2 := (keep1 hbw k2).1
      have it0 : (0 : Int) ≤ (k : Int) := by omega
      have it1 : (k : Int) < (n : Int) := by omega
      by_cases he : T (nth A k) * valF (Y.map T) (ptF k) = T (nth B k) * valF (X.map T) (ptF k)
      · have tz : (V (T (nth A k) * valF (Y.map T) (ptF k)) != V (T (nth B k) * valF (X.map T) (ptF k))) = false := by rw [he]; exact bne_self_eq_false _
        have hall2 : Hid (∀ j, j < k + 1 → T (nth A j) * valF (Y.map T) (ptF j) = T (nth B j) * valF (X.map T) (ptF j)) := Lib.hid fun j h => by
          by_cases e : j = k
          · rw [e]; exact he
          · exact hall.out j (by omega)
        clear he hall
        go_wp2_with fail
        refine wp_region_still_lit (by kernel_rfl) (by kernel_rfl) ?_
        repeat (first
          | still_step
          | (still_call (still_of (mul_any _ _ _ ha3 ha4 (V_lo _) (V_64 _))))
          | (still_call (still_of (mul_any _ _ _ hb23 hb24 (V_lo _) (V_64 _)))))
        refine wpStill_nil ?_
        change Exit.then _ _ _ _ wr.drew
        go_wp2
        go_roundw
        case rel => exact ⟨k + 1, by omega, by go_num, hbr.drew, hall2⟩
        case measure => simp [intOf]; omega
      · have tz : (V (T (nth A k) * valF (Y.map T) (ptF k)) != V (T (nth B k) * valF (X.map T) (ptF k))) = true := by
          rw [bne_iff_ne]; exact fun e => he (V_inj e)
        have he2 := Lib.hid he
        clear he hall
        go_wp2_with fail
        refine wp_region_still_lit (by kernel_rfl) (by kernel_rfl) ?_
        repeat (first
          | still_step
          | (still_call (still_of (mul_any _ _ _ ha3 ha4 (V_lo _) (V_64 _))))
          | (still_call (still_of (mul_any _ _ _ hb23 hb24 (V_lo _) (V_64 _)))))
        refine wpStill_nil ?_
        change Exit.then _ _ _ _ wr.drew
        go_wp2
        go_ret
        exact ⟨.inr ⟨rfl, fun h => he2.out (h k hlk)⟩, hb0.trans (hbw.drew.mono hb0.size)⟩
    · obtain rfl : k = n := by omega
      go_wp2_with fail
      go_ret
      exact ⟨.inl ⟨rfl, hall.out⟩, hb0.trans (hbw.mono hb0.size)⟩
end Go.Proofs.Ytelnhpcehmdffaa
