/-
  Numbers sorted: the document's.
-/
import Derived.Test.YtkolilbebkkpdaaDoorRoSp
import Derived.Test.YtkolilbebkkpdaaDoorRoNm
import Derived.Test.YtkolilbebkkpdaaDoorRoZ3
namespace Go.Proofs.YtkolilbebkkpdaaDoor
open Go.RowKit Go.Maps Go.Shelf

theorem OwnI.self {w : World} {base : Nat} {v : Value} {n : Nat} {xs : List Int} (h : OwnI w base v n xs) (B : Nat) (hB : B ≤ base) : OwnI w B v n xs := by
  refine ⟨h.len, ⟨h.row.1, ?_⟩, h.bd⟩
  rcases h.row.2 with h1 | ⟨g, cap, cur, hv, hg, h2⟩
  · exact .inl h1
  · exact .inr ⟨g, cap, cur, hv, Nat.le_trans hB hg, h2⟩
/-- The first k of a slice; what stands behind them. -/
theorem UI.take {w : World} {p : Option Addr} {n : Nat} {xs : List Int} (h : UI w p n xs) {k : Nat} (hk : k ≤ n) : UI w p k (xs.take k) := by
  refine ⟨by rw [List.length_take, h.len]; omega, ?_, fun x hx => h.bd x (List.mem_of_mem_take hx)⟩
  rcases h.rd with h1 | ⟨b, off, hp, hc⟩
  · left
    rw [List.map_take]
    have : xs.map (Value.int .i64) = [] := h1
    rw [this, List.take_nil]
  · refine .inr ⟨b, off, hp, fun i hi => ?_⟩
    have hi' : i < (xs.map (Value.int .i64)).length := by
      rw [List.length_map, List.length_take] at hi
      rw [List.length_map]; omega
    have := hc i hi'
    rw [this]
    simp
theorem UI.drop {w : World} {b off n : Nat} {xs : List Int} (h : UI w (some ⟨b, off, none⟩) n xs) {k : Nat} (_ : k ≤ n) : UI w (some ⟨b, off + k, none⟩) (n - k) (xs.drop k) := by
  refine ⟨by rw [List.length_drop, h.len], ?_, fun x hx => h.bd x (List.mem_of_mem_drop hx)⟩
  rcases h.rd with h1 | ⟨b', off', hp, hc⟩
  · left
    rw [List.map_drop]
    have : xs.map (Value.int .i64) = [] := h1
    rw [this, List.drop_nil]
  · injection hp with hp
    injection hp with hp1 hp2
    subst hp1; subst hp2
    refine .inr ⟨b, off + k, rfl, fun i hi => ?_⟩
    have hi' : k + i < (xs.map (Value.int .i64)).length := by
      rw [List.length_map, List.length_drop] at hi
      rw [List.length_map]; omega
    have := hc (k + i) hi'
    rw [Nat.add_assoc, this]
    simp
set_option maxRecDepth 100000 in
set_option maxHeartbeats 4000000 in
theorem Sorted_ref (p : Option Addr) (n : Nat) (xs : List Int) (c : Nat) (w : World) (hU : UI w p n xs) (hn : n ≤ 1000) :
    Calls Tryd.prog 17 #[.slice p n c] w fun e w' => ∃ v, e = .returned v ∧ OwnI w' w.heap.size v n (sortI xs) ∧ Below w.heap.size w w' := by
  have hX := Lib.hid hU.len
  go_enter Tryd.func17, Tryd.ntmps17
  go_wp2_with fail
  go_loopw [3, 4] (fun v i wr => ∃ j : Nat, j ≤ n ∧ i = .int .i64 j ∧ OwnI wr w.heap.size v j (sortR (xs.take j)) ∧ Below w.heap.size w wr)
    (fun _ i _ => n - (intOf i).toNat)
  case atStart => exact ⟨0, Nat.zero_le _, rfl, OwnI.nil _ _, Below.refl _ _⟩
  case round =>
    obtain ⟨j, hj, rfl, hown, hb⟩ := hrel
    by_cases hlt : j < n
    · obtain ⟨b, off, rfl, _, hc, hx0, hx1⟩ := (hU.below hb).look hlt
      obtain ⟨q, cq, rfl, hqc, hQ, hqf⟩ := hown.u
      obtain ⟨ys, hys⟩ : ∃ ys, Hid (sortR (xs.take j) = ys) := ⟨_, Lib.hid rfl⟩
      rw [hys.out] at hown hQ
      obtain ⟨x, hx⟩ : ∃ x, Hid (nth xs j = x) := ⟨_, Lib.hid rfl⟩
      rw [hx.out] at hc hx0 hx1
      have hyl := Lib.hid hQ.len
      have hln : leN ys x ≤ j := by have := leN_le ys x; rw [hyl.out] at this; exact this
      have hjb : (j : Int) ≤ 1000 := by omega
      go_wp2_with fail
      go_loopw [5] (fun kv wr2 => ∃ k : Nat, k ≤ leN ys x ∧ kv = .int .i64 k ∧ Below wr.heap.size wr wr2)
        (fun kv _ => leN ys x - (intOf kv).toNat)
      case atStart => exact ⟨0, Nat.zero_le _, rfl, Below.refl _ _⟩
      case round =>
        obtain ⟨k, hk, rfl, hb2⟩ := hrel
        have hc2 := (hb2.cell (p := ⟨b, off + j, none⟩) (cell_lt hc)).trans hc
        have hixj : (j : Int) < (n : Int) := by omega
        have hkb : (k : Int) ≤ 1000 := by omega
        by_cases hkl : k < leN ys x
        · have hkj : k < j := by omega
          obtain ⟨g, go, rfl, _, hg, hg0, hg1⟩ := (hQ.below hb2).look hkj
          have hle : nth ys k ≤ x := leN_lt ys x k hkl
          have hix2 : (k : Int) < (j : Int) := by omega
          go_wp2_with fail
          go_quiet (fail)
          go_wp2_with fail
          go_roundw
          case rel => exact ⟨k + 1, by omega, by go_num, belowN hb2 _⟩
          case measure => simp [intOf]; omega
        · have hkk : k = leN ys x := by omega
          have hkj : k ≤ j := by omega
          have hq0 : q = none → cq = 0 := by
            intro h
            rcases hown.row.2 with ⟨hv, _⟩ | ⟨_, _, _, hv, _⟩
            · injection hv
            · injection hv with hv; rw [h] at hv; cases hv
          have hins : Hid (insR ys x = ys.take k ++ [x] ++ ys.drop k) := Lib.hid (by rw [hkk]; rfl)
          have hst : Hid (sortR (xs.take (j + 1)) = insR ys x) := Lib.hid (by
            have hjx : j < xs.length := by rw [hX.out]; exact hlt
            have : xs.take (j + 1) = xs.take j ++ [nth xs j] := by rw [List.take_add_one, List.getElem?_eq_getElem hjx, ← nth_eq hjx]; rfl
            rw [this, sortR_snoc, hys.out, hx.out])
          have hbW := hb.trans (hb2.mono hb.size)
          have hQi := hQ.below hb2
          have hfin : ∀ W3 v3, Below wr.heap.size wr W3 → OwnI W3 w.heap.size v3 (k + 1 + (j - k)) (ys.take k ++ [x] ++ ys.drop k) → OwnI W3 w.heap.size v3 (j + 1) (sortR (xs.take (j + 1))) ∧ Below w.heap.size w W3 := fun W3 v3 h1 h2 => by
            rw [hst.out, hins.out, show j + 1 = k + 1 + (j - k) by omega]
            exact ⟨h2, hbW.trans (h1.mono hbW.size)⟩
          replace hfin := Lib.hid hfin
          replace hkk := Lib.hid hkk
          cases q with
          | none =>
            have hj0 : j = 0 := by
              rcases Nat.eq_zero_or_pos j with h | h
              · exact h
              · obtain ⟨_, _, he, _⟩ := hQ.look h
                cases he
            have hc0 := hq0 rfl
            subst hj0
            subst hc0
            have hk0 : k = 0 := by omega
            subst hk0
            have hU0 : UI wr none 0 ys := hQi
            go_wp2_with fail
            go_quiet (fail)
            have hB3 : Below wr.heap.size wr (wr.drewN nq) := belowN (Below.refl _ _) nq
            have hQ3 : UI (wr.drewN nq) none 0 ys := hU0.below hB3
            have hn3 := OwnI.nil (wr.drewN nq) (wr.drewN nq).heap.size
            have hc3 : (wr.drewN nq).cell? ⟨b, off, none⟩ = some (.int .i64 x) := hc2
            obtain ⟨W0, hW0, hn3⟩ := nameW (p := fun W => OwnI W W.heap.size (.slice none 0 0) 0 []) hn3
            rw [hW0.out] at hB3 hQ3 hc3
            rw [hW0.out]
            have hy0 : ys = [] := List.eq_nil_of_length_eq_zero hQ3.len
            have hUn : ∀ W, UI W none 0 ([] : List Int) := fun W => ⟨rfl, .nil, fun _ h => by cases h⟩
            go_wp2_with (first
              | (at_builtin; refine app_manyI rfl _ _ rfl hn3 rfl rfl (hUn _) (fun _ => rfl) (by omega) (Nat.le_refl _) ?_; intro v4 W4 hown4 hb4; have hc4 := (hb4.cell (p := ⟨b, off, none⟩) (cell_lt hc3)).trans hc3; have hz4 := hb4.size)
              | (at_builtin; refine app_i rfl _ _ rfl hown4 rfl rfl ⟨hx0, hx1⟩ (by omega) hz4 ?_; intro v5 W5 hown5 hb5; have hz5 := Nat.le_trans hz4 hb5.size)
              | (at_builtin; refine app_manyI rfl _ _ rfl hown5 rfl rfl (hUn _) (fun _ => rfl) (by omega) hz5 ?_; intro v6 W6 hown6 hb6)
              | fail)
            have hle : w.heap.size ≤ W0.heap.size := Nat.le_trans hbW.size hB3.size
            obtain ⟨r1, r2⟩ := hfin.out W6 v6 (hB3.trans (((hb4.trans hb5).trans hb6).mono hB3.size)) (by have := hown6.self w.heap.size hle; rw [hy0]; exact this)
            go_roundw
            case rel => exact ⟨1, by omega, by go_num, r1, r2⟩
            case measure => simp [intOf]; omega
          | some qa =>
            obtain ⟨g, go⟩ : ∃ g go, True := ⟨0, 0, trivial⟩
            have hkc : (k : Int) ≤ (cq : Int) := by omega
            have hkj2 : (k : Int) ≤ (j : Int) := by omega
            have hjc : (j : Int) ≤ (cq : Int) := by omega
            by_cases hkj3 : k < j
            · obtain ⟨g, go, hqe, _, hg, hg0, hg1⟩ := (hQ.below hb2).look hkj3
              injection hqe with hqe
              subst hqe
              have hgt : ¬ nth ys k ≤ x := by rw [hkk.out]; exact leN_at ys x (by rw [hyl.out]; omega)
              have hix2 : (k : Int) < (j : Int) := by omega
              clear hkl
              go_wp2_with fail
              go_quiet (fail)
              have hB3 : Below wr.heap.size wr (wr.drewN nq) := belowN (Below.refl _ _) nq
              have hQ3 : UI (wr.drewN nq) (some ⟨g, go, none⟩) j ys := hQi.below hB3
              have hn3 := OwnI.nil (wr.drewN nq) (wr.drewN nq).heap.size
              have hc3 : (wr.drewN nq).cell? ⟨b, off + j, none⟩ = some (.int .i64 x) := hc2
              have hsz3 : (wr.drewN nq).heap.size = wr.heap.size := rfl
              obtain ⟨W0, hW0, hn3⟩ := nameW (p := fun W => OwnI W W.heap.size (.slice none 0 0) 0 []) hn3
              rw [hW0.out] at hB3 hQ3 hc3
              rw [hW0.out]
              go_wp2_with (first
                | (at_builtin; refine app_manyI rfl _ _ rfl hn3 rfl rfl (hQ3.take hkj) (fun h => by cases h) (by omega) (Nat.le_refl _) ?_; intro v4 W4 hown4 hb4; have hc4 := (hb4.cell (p := ⟨b, off + j, none⟩) (cell_lt hc3)).trans hc3; have hz4 := hb4.size)
                | (at_builtin; refine app_i rfl _ _ rfl hown4 rfl rfl ⟨hx0, hx1⟩ (by omega) hz4 ?_; intro v5 W5 hown5 hb5; have hz5 := Nat.le_trans hz4 hb5.size; have hQ5 := hQ3.below (hb4.trans hb5))
                | (at_builtin; refine app_manyI rfl _ _ rfl hown5 rfl rfl (hQ5.drop hkj) (fun h => by cases h) (by omega) hz5 ?_; intro v6 W6 hown6 hb6)
                | fail)
              have hle : w.heap.size ≤ W0.heap.size := Nat.le_trans hbW.size hB3.size
              obtain ⟨r1, r2⟩ := hfin.out W6 v6 (hB3.trans (((hb4.trans hb5).trans hb6).mono hB3.size)) (by have := hown6.self w.heap.size hle; rwa [Nat.zero_add, List.nil_append] at this)
              go_roundw
              case rel => exact ⟨j + 1, by omega, by go_num, r1, r2⟩
              case measure => simp [intOf]; omega
            · have hkj4 : k = j := by omega
              have hnlt : decide ((k : Int) < (j : Int)) = false := decide_eq_false (by omega)
              obtain ⟨g, go, sp⟩ := qa
              have hsp : sp = none := by
                rcases hown.row.2 with ⟨hv, _⟩ | ⟨_, _, _, hv, _⟩
                · injection hv with hv; cases hv
                · injection hv with hv; injection hv with hv; injection hv
              subst hsp
              clear hkl hkj3 hnlt
              subst hkj4
              have hdr : ys.drop k = [] := List.drop_eq_nil_of_le (by rw [hyl.out]; exact Nat.le_refl _)
              replace hdr := Lib.hid hdr
              have hUe : ∀ (T : World) (p' : Option Addr), UI T p' 0 ([] : List Int) := fun T p' => ⟨rfl, .nil, fun _ h => by cases h⟩
              replace hUe := Lib.hid hUe
              clear hkk hst hins hkb hjb hln hj hlt
              rcases Nat.lt_or_ge k cq with hkq | hkq
              · have hkq2 : (k : Int) < (cq : Int) := by omega
                have hkq3 : ¬ ((k : Int) = (cq : Int)) := by omega
                have hkq4 : ¬ (k = cq) := by omega
                go_wp2_with fail
                go_quiet (fail)
                have hB3 : Below wr.heap.size wr (wr.drewN nq) := belowN (Below.refl _ _) nq
                have hQ3 : UI (wr.drewN nq) (some ⟨g, go, none⟩) k ys := hQi.below hB3
                have hn3 := OwnI.nil (wr.drewN nq) (wr.drewN nq).heap.size
                have hc3 : (wr.drewN nq).cell? ⟨b, off + k, none⟩ = some (.int .i64 x) := hc2
                obtain ⟨W0, hW0, hn3⟩ := nameW (p := fun W => OwnI W W.heap.size (.slice none 0 0) 0 []) hn3
                rw [hW0.out] at hB3 hQ3 hc3
                rw [hW0.out]
                go_wp2_with (first
                  | (at_builtin; refine app_manyI rfl _ _ rfl hn3 rfl rfl (hQ3.take hkj) (fun h => by cases h) (by omega) (Nat.le_refl _) ?_; intro v4 W4 hown4 hb4; have hc4 := (hb4.cell (p := ⟨b, off + k, none⟩) (cell_lt hc3)).trans hc3; have hz4 := hb4.size)
                  | (at_builtin; refine app_i rfl _ _ rfl hown4 rfl rfl ⟨hx0, hx1⟩ (by omega) hz4 ?_; intro v5 W5 hown5 hb5; have hz5 := Nat.le_trans hz4 hb5.size)
                  | (at_builtin; refine app_manyI (ys := []) (m := 0) rfl _ _ rfl hown5 rfl rfl (hUe.out _ _) (fun h => by cases h) (by omega) hz5 ?_; intro v6 W6 hown6 hb6)
                  | fail)
                have hle : w.heap.size ≤ W0.heap.size := Nat.le_trans hbW.size hB3.size
                obtain ⟨r1, r2⟩ := hfin.out W6 v6 (hB3.trans (((hb4.trans hb5).trans hb6).mono hB3.size)) (by have := hown6.self w.heap.size hle; rw [hdr.out, Nat.sub_self]; rwa [Nat.zero_add] at this)
                go_roundw
                case rel => exact ⟨k + 1, by omega, by go_num, r1, r2⟩
                case measure => simp [intOf]; omega
              · have hcqk : cq = k := by omega
                subst hcqk
                go_wp2_with fail
                go_quiet (fail)
                have hB3 : Below wr.heap.size wr (wr.drewN nq) := belowN (Below.refl _ _) nq
                have hQ3 : UI (wr.drewN nq) (some ⟨g, go, none⟩) cq ys := hQi.below hB3
                have hn3 := OwnI.nil (wr.drewN nq) (wr.drewN nq).heap.size
                have hc3 : (wr.drewN nq).cell? ⟨b, off + cq, none⟩ = some (.int .i64 x) := hc2
                obtain ⟨W0, hW0, hn3⟩ := nameW (p := fun W => OwnI W W.heap.size (.slice none 0 0) 0 []) hn3
                rw [hW0.out] at hB3 hQ3 hc3
                rw [hW0.out]
                go_wp2_with (first
                  | (at_builtin; refine app_manyI rfl _ _ rfl hn3 rfl rfl (hQ3.take hkj) (fun h => by cases h) (by omega) (Nat.le_refl _) ?_; intro v4 W4 hown4 hb4; have hc4 := (hb4.cell (p := ⟨b, off + cq, none⟩) (cell_lt hc3)).trans hc3; have hz4 := hb4.size)
                  | (at_builtin; refine app_i rfl _ _ rfl hown4 rfl rfl ⟨hx0, hx1⟩ (by omega) hz4 ?_; intro v5 W5 hown5 hb5; have hz5 := Nat.le_trans hz4 hb5.size)
                  | (at_builtin; refine app_manyI (ys := []) (m := 0) rfl _ _ rfl hown5 rfl rfl (hUe.out _ _) (fun h => by cases h) (by omega) hz5 ?_; intro v6 W6 hown6 hb6)
                  | fail)
                have hle : w.heap.size ≤ W0.heap.size := Nat.le_trans hbW.size hB3.size
                obtain ⟨r1, r2⟩ := hfin.out W6 v6 (hB3.trans (((hb4.trans hb5).trans hb6).mono hB3.size)) (by have := hown6.self w.heap.size hle; rw [hdr.out, Nat.sub_self]; rwa [Nat.zero_add] at this)
                go_roundw
                case rel => exact ⟨cq + 1, by omega, by go_num, r1, r2⟩
                case measure => simp [intOf]; omega
    · have hjn : j = n := by omega
      have hall : Hid (xs.take j = xs) := Lib.hid (List.take_of_length_le (by rw [hX.out]; omega))
      rw [hall.out, sortR_eq] at hown
      go_wp2_with fail
      go_ret
      exact ⟨_, rfl, hjn ▸ hown, hb⟩
end Go.Proofs.YtkolilbebkkpdaaDoor
