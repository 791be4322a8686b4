/-
  The contracts of what the statements about sketches need besides (1): has a list a number, are lists the same, sets made of numbers, unions, does a list rise.
  The contracts of what the statements about sketches need besides (2): what only one of two sets has; do two lists fit two sketches.
  What sketches of sets tell; plain Lean.
  The contracts of sketches, in sets alone; what fits; the document's example.
  What the document's example tells; plain Lean.
  The document's example of sketches.
  Facts on the sets that the statements on sketches make.
-/
import Derived.Test.YtelnhpcehmdffaaSkI
import Derived.BigQuiet
import Derived.Test.YtelnhpcehmdffaaSkJ
namespace Go.Proofs.Ytelnhpcehmdffaa
open Go.RowKit
attribute [local go_sem] T_V

theorem mem_V {L : List F} {x : F} : V x ∈ L.map V ↔ x ∈ L := by
  constructor
  · intro h
    obtain ⟨y, hy, e⟩ := List.mem_map.1 h
    rw [← V_inj e]; exact hy
  · exact fun h => List.mem_map.2 ⟨x, h, rfl⟩
set_option maxRecDepth 100000 in
theorem Has_any (p : Option Addr) (n : Nat) (xs : List Int) (c : Nat) (x : Int) (w : World) (hU : U w p n xs) (hn : n ≤ 1000000) :
    Calls Try.prog 26 #[.slice p n c, .int .u64 x] w fun e w' => ((e = .returned (.bool true) ∧ x ∈ xs) ∨ (e = .returned (.bool false) ∧ x ∉ xs)) ∧ w' = w := by
  have hXl := Lib.hid hU.len
  go_enter Try.func26, Try.ntmps26
  go_wp2_with fail
  go_loop [5] (fun iv => ∃ i : Nat, i ≤ n ∧ iv = .int .i64 i ∧ Hid (∀ k, k < i → nth xs k ≠ x)) (fun iv => n - (intOf iv).toNat)
  case atStart => exact ⟨0, Nat.zero_le _, rfl, Lib.hid fun k h => by omega⟩
  case round =>
    obtain ⟨i, hi, rfl, hny⟩ := hrel
    by_cases hlt : i < n
    · obtain ⟨b, off, rfl, hbb, hcell, hx0, hx1⟩ := hU.look hlt
      by_cases he : nth xs i = x
      · have te : (nth xs i == x) = true := beq_iff_eq.2 he
        have hm : Hid (x ∈ xs) := Lib.hid (he ▸ nth_mem (by rw [hXl.out]; exact hlt))
        clear he hny
        go_wp2_with fail
        go_ret
        exact ⟨.inl ⟨rfl, hm.out⟩, rfl⟩
      · have te : (nth xs i == x) = false := beq_eq_false_iff_ne.2 he
        have hny2 : Hid (∀ k, k < i + 1 → nth xs k ≠ x) := Lib.hid fun k h => by
          by_cases e : k = i
          · rw [e]; exact he
          · exact hny.out k (by omega)
        clear he hny
        go_wp2_with fail
        go_round
        case rel => exact ⟨i + 1, by omega, by go_num, hny2⟩
        case measure => simp [intOf]; omega
    · obtain rfl : i = n := by omega
      have hno : Hid (x ∉ xs) := Lib.hid fun h => by
        obtain ⟨k, hk, e⟩ := List.mem_iff_getElem.1 h
        exact hny.out k (by rw [← hXl.out]; exact hk) (by rw [nth_eq hk]; exact e)
      clear hny
      go_wp2_with fail
      go_ret
      exact ⟨.inr ⟨rfl, hno.out⟩, rfl⟩
theorem list_ne {xs ys : List Int} {k : Nat} (h : nth xs k ≠ nth ys k) : xs ≠ ys := fun e => h (by rw [e])
theorem list_eq {xs ys : List Int} (hl : xs.length = ys.length) (h : ∀ k, k < xs.length → nth xs k = nth ys k) : xs = ys :=
  List.ext_getElem hl fun k h1 h2 => by
    have := h k h1
    rwa [nth_eq h1, nth_eq h2] at this
set_option maxRecDepth 100000 in
set_option maxHeartbeats 1000000 in
theorem Same_any (p q : Option Addr) (n m : Nat) (xs ys : List Int) (c d : Nat) (w : World) (hX : U w p n xs) (hY : U w q m ys) (hn : n ≤ 1000000) (hm : m ≤ 1000000) :
    Calls Try.prog 17 #[.slice p n c, .slice q m d] w fun e w' => ((e = .returned (.bool true) ∧ xs = ys) ∨ (e = .returned (.bool false) ∧ xs ≠ ys)) ∧ Below w.heap.size w w' := by
  have hXl := Lib.hid hX.len
  have hYl := Lib.hid hY.len
  by_cases hnm : n = m
  · subst hnm
    have hne : ((n : Int) != n) = false := bne_self_eq_false _
    go_enter Try.func17, Try.ntmps17
    go_wp2_with fail
    go_loopw [5] (fun i wr => ∃ k : Nat, k ≤ n ∧ i = .int .i64 k ∧ Hid (∀ j, j < k → nth xs j = nth ys j) ∧ Below w.heap.size w wr) (fun i _ => n - (intOf i).toNat)
    case atStart => exact ⟨0, Nat.zero_le _, rfl, Lib.hid fun k h => by omega, Below.refl _ _⟩
    case round =>
      obtain ⟨k, hk, rfl, hall, hb⟩ := hrel
      by_cases hlt : k < n
      · obtain ⟨b, off, rfl, _, hc1, _⟩ := (hX.below hb).look hlt
        obtain ⟨b', off', rfl, _, hc2, _⟩ := (hY.below hb).look hlt
        have it0 : (0 : Int) ≤ (k : Int) := by omega
        have it1 : (k : Int) < (n : Int) := by omega
        by_cases he : nth xs k = nth ys k
        · have te : (nth xs k != nth ys k) = false := by rw [he]; exact bne_self_eq_false _
          have hall2 : Hid (∀ j, j < k + 1 → nth xs j = nth ys j) := Lib.hid fun j h => by
            by_cases e : j = k
            · rw [e]; exact he
            · exact hall.out j (by omega)
          clear he hall
          go_wp2_with fail
          refine wp_region_still_lit (by kernel_rfl) (by kernel_rfl) ?_
          repeat still_step
          refine wpStill_nil ?_
          change Exit.then _ _ _ _ wr.drew
          go_wp2_with fail
          go_roundw
          case rel => exact ⟨k + 1, by omega, by go_num, hall2, hb.drew⟩
          case measure => simp [intOf]; omega
        · have te : (nth xs k != nth ys k) = true := bne_iff_ne.2 he
          have hno : Hid (xs ≠ ys) := Lib.hid (list_ne he)
          clear he hall
          go_wp2_with fail
          refine wp_region_still_lit (by kernel_rfl) (by kernel_rfl) ?_
          repeat still_step
          refine wpStill_nil ?_
          change Exit.then _ _ _ _ wr.drew
          go_wp2_with fail
          go_ret
          exact ⟨.inr ⟨rfl, hno.out⟩, hb.drew⟩
      · obtain rfl : k = n := by omega
        have hyes : Hid (xs = ys) := Lib.hid (list_eq (by rw [hXl.out, hYl.out]) fun j hj => hall.out j (by rw [← hXl.out]; exact hj))
        clear hall
        go_wp2_with fail
        go_ret
        exact ⟨.inl ⟨rfl, hyes.out⟩, hb⟩
  · have hne : ((n : Int) != m) = true := bne_iff_ne.2 (by omega)
    have hno : Hid (xs ≠ ys) := Lib.hid fun e => hnm (by rw [← hXl.out, ← hYl.out, e])
    clear hnm
    go_enter Try.func17, Try.ntmps17
    go_wp2_with fail
    go_ret
    exact ⟨.inr ⟨rfl, hno.out⟩, Below.refl _ _⟩
/-- One more of a set. -/
def addS (S : List F) (x : F) : List F := open Classical in if x ∈ S then S else S ++ [x]
theorem addS_in {S : List F} {x : F} (h : x ∈ S) : addS S x = S := by unfold addS; rw [if_pos h]
theorem addS_out {S : List F} {x : F} (h : x ∉ S) : addS S x = S ++ [x] := by unfold addS; rw [if_neg h]
theorem addS_nodup {S : List F} (h : S.Nodup) (x : F) : (addS S x).Nodup := by
  by_cases hx : x ∈ S
  · rw [addS_in hx]; exact h
  · rw [addS_out hx]
    exact List.nodup_append.2 ⟨h, by simp, fun a ha b hb e => hx (by rw [List.mem_singleton] at hb; rw [← hb, ← e]; exact ha)⟩
theorem addS_mem {S : List F} {x y : F} : y ∈ addS S x ↔ y ∈ S ∨ y = x := by
  by_cases hx : x ∈ S
  · rw [addS_in hx]
    exact ⟨.inl, fun h => h.elim id fun e => e ▸ hx⟩
  · rw [addS_out hx, List.mem_append, List.mem_singleton]
theorem addS_len (S : List F) (x : F) : (addS S x).length ≤ S.length + 1 := by
  by_cases hx : x ∈ S
  · rw [addS_in hx]; omega
  · rw [addS_out hx]; simp
/-- Many more. -/
def addsS (S : List F) (xs : List F) : List F := xs.foldl addS S
theorem addsS_nodup {S : List F} (h : S.Nodup) (xs : List F) : (addsS S xs).Nodup := by
  induction xs generalizing S with
  | nil => exact h
  | cons x xs ih => exact ih (addS_nodup h x)
theorem addsS_mem {S : List F} (xs : List F) {y : F} : y ∈ addsS S xs ↔ y ∈ S ∨ y ∈ xs := by
  induction xs generalizing S with
  | nil => simp [addsS]
  | cons x xs ih =>
    show y ∈ addsS (addS S x) xs ↔ _
    rw [ih, addS_mem, List.mem_cons, or_assoc]
theorem addsS_len (S : List F) (xs : List F) : (addsS S xs).length ≤ S.length + xs.length := by
  induction xs generalizing S with
  | nil => exact Nat.le_refl _
  | cons x xs ih =>
    have h1 := ih (addS S x)
    have h2 := addS_len S x
    show (addsS (addS S x) xs).length ≤ _
    rw [List.length_cons]; omega
theorem addsS_snoc (S : List F) {xs : List F} {i : Nat} (h : i < xs.length) : addsS S (xs.take (i + 1)) = addS (addsS S (xs.take i)) xs[i] := by
  unfold addsS
  rw [List.take_succ_eq_append_getElem h, List.foldl_append]; rfl
/-- An element, made of a number. -/
def elemI (z : Int) : Int := if z % 7 = 5 then 1152921504606846976 - z % 9 else if z % 7 = 3 then 1 + z % 1152921504606846976 else 1 + z % 30
theorem elemI_bd (z : Int) : 1 ≤ elemI z ∧ elemI z ≤ 1152921504606846976 := by
  unfold elemI
  split
  · omega
  · split <;> omega
def elemF (z : Int) : F := T (elemI z)
theorem V_elemF (z : Int) : V (elemF z) = elemI z := by
  have := elemI_bd z
  unfold elemF
  exact T_small _ (by omega) (by omega)
/-- A set, made of numbers. -/
def setF (xs : List Int) : List F := addsS [] ((xs.map elemF).take 12)
theorem setF_nodup (xs : List Int) : (setF xs).Nodup := addsS_nodup List.nodup_nil _
theorem setF_len (xs : List Int) : (setF xs).length ≤ 12 := by
  have := addsS_len [] ((xs.map elemF).take 12)
  rw [List.length_take] at this
  unfold setF
  simp only [List.length_nil] at this
  omega
theorem setF_bd (xs : List Int) {x : F} (h : x ∈ setF xs) : 1 ≤ V x ∧ V x ≤ 1152921504606846976 := by
  rcases (addsS_mem _).1 h with h | h
  · cases h
  · obtain ⟨z, _, rfl⟩ := List.mem_map.1 (List.mem_of_mem_take h)
    rw [V_elemF]; exact elemI_bd z
set_option maxRecDepth 100000 in
set_option maxHeartbeats 2000000 in
theorem Set_any (p : Option Addr) (n : Nat) (xs : List Int) (c : Nat) (w : World) (hU : U w p n xs) (hn : n ≤ 9223372036854775807) :
    Calls Try.prog 12 #[.slice p n c] w fun e w' => ∃ v, e = .returned v ∧ Own w' w.heap.size v (setF xs).length ((setF xs).map V) ∧ Below w.heap.size w w' := by
  have hXl := Lib.hid hU.len
  go_enter Try.func12, Try.ntmps12
  go_wp2_with fail
  go_loopw [3, 4] (fun v i wr => ∃ (k m : Nat) (S : List F), k ≤ min n 12 ∧ i = .int .i64 k ∧ Own wr w.heap.size v m (S.map V) ∧ Hid (S = addsS [] ((xs.map elemF).take k)) ∧ Hid (S.length = m) ∧ m ≤ k ∧ Below w.heap.size w wr)
    (fun _ i _ => min n 12 - (intOf i).toNat)
  case atStart => exact ⟨0, 0, [], Nat.zero_le _, rfl, Own.nil _ _, Lib.hid rfl, Lib.hid rfl, Nat.le_refl _, Below.refl _ _⟩
  case round =>
    obtain ⟨k, m, S, hk, rfl, hown, hS, hSl, hmk, hb⟩ := hrel
    obtain ⟨po, co, rfl, hco, hUo, hpo⟩ := hown.u'
    by_cases hlt : k < min n 12
    · obtain ⟨b, off, rfl, _, hc1, hz0, hz1⟩ := (hU.below hb).look (i := k) (by omega)
      have hkl : Hid (k < (xs.map elemF).length) := Lib.hid (by rw [List.length_map, hXl.out]; omega)
      have hst : Hid (addsS [] ((xs.map elemF).take (k + 1)) = addS S (elemF (nth xs k))) := Lib.hid (by
        rw [addsS_snoc [] hkl.out, ← hS.out, List.getElem_map, nth_eq (by rw [hXl.out]; omega)])
      have d1 : decide ((k : Int) < (n : Int)) = true := by rw [decide_eq_true_eq]; omega
      have d2 : decide ((k : Int) < (12 : Int)) = true := by rw [decide_eq_true_eq]; omega
      obtain ⟨z, hz⟩ : ∃ z, Hid (nth xs k = z) := ⟨_, Lib.hid rfl⟩
      rw [hz.out] at hc1 hz0 hz1
      have hVe : Hid (V (elemF (nth xs k)) = elemI z) := Lib.hid (by rw [V_elemF, hz.out])
      have hbd := elemI_bd z
      obtain ⟨x, hx⟩ : ∃ x : F, Hid (elemF (nth xs k) = x) := ⟨_, Lib.hid rfl⟩
      rw [hx.out] at hst hVe
      clear hz hx hS hkl
      rcases (by omega : (z % 7 = 5) ∨ (z % 7 = 3) ∨ (z % 7 ≠ 5 ∧ z % 7 ≠ 3)) with h7 | h7 | ⟨h5, h3⟩
      · have t5 : (z % 7 == 5) = true := by rw [h7]; rfl
        have t3 : (z % 7 == 3) = false := by rw [h7]; rfl
        have hel : Hid (elemI z = 1152921504606846976 - z % 9) := Lib.hid (by unfold elemI; rw [if_pos h7])
        have n9 : 0 ≤ 1152921504606846976 - z % 9 ∧ 1152921504606846976 - z % 9 < 18446744073709551616 := by omega
        rw [hel.out] at hVe
        clear h7 hel
        go_wp2_with fail
        refine (Has_any po m _ co _ _ hUo (by omega)).mono ?_
        rintro e w1 ⟨⟨rfl, hin⟩ | ⟨rfl, hin⟩, rfl⟩
        · have hin2 : Hid (addS S x = S) := Lib.hid (addS_in (mem_V.1 (by rw [hVe.out]; exact hin)))
          have hst2 : Hid (S = addsS [] ((xs.map elemF).take (k + 1))) := Lib.hid (by rw [hst.out, hin2.out])
          clear hin hin2 hst
          go_wp2_with fail
          go_roundw
          case rel => exact ⟨k + 1, m, S, by omega, by go_num, hown, hst2, hSl, by omega, hb⟩
          case measure => simp [intOf]; omega
        · have hin2 : Hid (addS S x = S ++ [x]) := Lib.hid (addS_out fun h => hin (by rw [← hVe.out]; exact mem_V.2 h))
          have hst2 : Hid (S ++ [x] = addsS [] ((xs.map elemF).take (k + 1))) := Lib.hid (by rw [hst.out, hin2.out])
          have hSl2 : Hid ((S ++ [x]).length = m + 1) := Lib.hid (by rw [List.length_append, hSl.out]; rfl)
          clear hin hin2 hst
          go_wp2_with (at_builtin; refine app_one rfl _ _ rfl hown rfl rfl n9 (by omega) hb.size ?_; intro v' w1 hown1 hb1)
          have hown2 : Own w1 w.heap.size v' (m + 1) ((S ++ [x]).map V) := by
            rw [List.map_append, List.map_cons, hVe.out]; exact hown1
          go_roundw
          case rel => exact ⟨k + 1, m + 1, S ++ [x], by omega, by go_num, hown2, hst2, hSl2, by omega, hb.trans hb1⟩
          case measure => simp [intOf]; omega
      · have t5 : (z % 7 == 5) = false := by rw [h7]; rfl
        have t3 : (z % 7 == 3) = true := by rw [h7]; rfl
        have hel : Hid (elemI z = 1 + z % 1152921504606846976) := Lib.hid (by unfold elemI; rw [if_neg (by omega), if_pos h7])
        have n9 : 0 ≤ 1 + z % 1152921504606846976 ∧ 1 + z % 1152921504606846976 < 18446744073709551616 := by omega
        rw [hel.out] at hVe
        clear h7 hel
        go_wp2_with fail
        refine (Has_any po m _ co _ _ hUo (by omega)).mono ?_
        rintro e w1 ⟨⟨rfl, hin⟩ | ⟨rfl, hin⟩, rfl⟩
        · have hin2 : Hid (addS S x = S) := Lib.hid (addS_in (mem_V.1 (by rw [hVe.out]; exact hin)))
          have hst2 : Hid (S = addsS [] ((xs.map elemF).take (k + 1))) := Lib.hid (by rw [hst.out, hin2.out])
          clear hin hin2 hst
          go_wp2_with fail
          go_roundw
          case rel => exact ⟨k + 1, m, S, by omega, by go_num, hown, hst2, hSl, by omega, hb⟩
          case measure => simp [intOf]; omega
        · have hin2 : Hid (addS S x = S ++ [x]) := Lib.hid (addS_out fun h => hin (by rw [← hVe.out]; exact mem_V.2 h))
          have hst2 : Hid (S ++ [x] = addsS [] ((xs.map elemF).take (k + 1))) := Lib.hid (by rw [hst.out, hin2.out])
          have hSl2 : Hid ((S ++ [x]).length = m + 1) := Lib.hid (by rw [List.length_append, hSl.out]; rfl)
          clear hin hin2 hst
          go_wp2_with (at_builtin; refine app_one rfl _ _ rfl hown rfl rfl n9 (by omega) hb.size ?_; intro v' w1 hown1 hb1)
          have hown2 : Own w1 w.heap.size v' (m + 1) ((S ++ [x]).map V) := by
            rw [List.map_append, List.map_cons, hVe.out]; exact hown1
          go_roundw
          case rel => exact ⟨k + 1, m + 1, S ++ [x], by omega, by go_num, hown2, hst2, hSl2, by omega, hb.trans hb1⟩
          case measure => simp [intOf]; omega
      · have t5 : (z % 7 == 5) = false := beq_eq_false_iff_ne.2 h5
        have t3 : (z % 7 == 3) = false := beq_eq_false_iff_ne.2 h3
        have hel : Hid (elemI z = 1 + z % 30) := Lib.hid (by unfold elemI; rw [if_neg h5, if_neg h3])
        have n9 : 0 ≤ 1 + z % 30 ∧ 1 + z % 30 < 18446744073709551616 := by omega
        rw [hel.out] at hVe
        clear h5 h3 hel
        go_wp2_with fail
        refine (Has_any po m _ co _ _ hUo (by omega)).mono ?_
        rintro e w1 ⟨⟨rfl, hin⟩ | ⟨rfl, hin⟩, rfl⟩
        · have hin2 : Hid (addS S x = S) := Lib.hid (addS_in (mem_V.1 (by rw [hVe.out]; exact hin)))
          have hst2 : Hid (S = addsS [] ((xs.map elemF).take (k + 1))) := Lib.hid (by rw [hst.out, hin2.out])
          clear hin hin2 hst
          go_wp2_with fail
          go_roundw
          case rel => exact ⟨k + 1, m, S, by omega, by go_num, hown, hst2, hSl, by omega, hb⟩
          case measure => simp [intOf]; omega
        · have hin2 : Hid (addS S x = S ++ [x]) := Lib.hid (addS_out fun h => hin (by rw [← hVe.out]; exact mem_V.2 h))
          have hst2 : Hid (S ++ [x] = addsS [] ((xs.map elemF).take (k + 1))) := Lib.hid (by rw [hst.out, hin2.out])
          have hSl2 : Hid ((S ++ [x]).length = m + 1) := Lib.hid (by rw [List.length_append, hSl.out]; rfl)
          clear hin hin2 hst
          go_wp2_with (at_builtin; refine app_one rfl _ _ rfl hown rfl rfl n9 (by omega) hb.size ?_; intro v' w1 hown1 hb1)
          have hown2 : Own w1 w.heap.size v' (m + 1) ((S ++ [x]).map V) := by
            rw [List.map_append, List.map_cons, hVe.out]; exact hown1
          go_roundw
          case rel => exact ⟨k + 1, m + 1, S ++ [x], by omega, by go_num, hown2, hst2, hSl2, by omega, hb.trans hb1⟩
          case measure => simp [intOf]; omega
    · have hk' : k = min n 12 := by omega
      have hfin : Hid (Own wr w.heap.size (.slice po m co) (setF xs).length ((setF xs).map V)) := Lib.hid (by
        have e : setF xs = S := by
          rw [hS.out, hk']
          unfold setF
          by_cases h : n ≤ 12
          · rw [Nat.min_eq_left h, List.take_of_length_le (by rw [List.length_map, hXl.out]; exact h), List.take_of_length_le (by rw [List.length_map, hXl.out]; omega)]
          · rw [Nat.min_eq_right (by omega)]
        rw [e, hSl.out]; exact hown)
      have hd : decide (k < n) = false ∨ (decide (k < n) = true ∧ decide (k < 12) = false) := by
        by_cases h : k < n
        · exact .inr ⟨by simpa using h, by rw [decide_eq_false_iff_not]; omega⟩
        · exact .inl (by simpa using h)
      clear hk' hS hSl
      rcases hd with hd | ⟨hd, hd2⟩
      · go_wp2_with fail
        go_ret
        exact ⟨_, rfl, hfin.out, hb⟩
      · have hd3 : decide ((k : Int) < (12 : Int)) = false := by rw [decide_eq_false_iff_not] at hd2 ⊢; omega
        go_wp2_with fail
        go_ret
        exact ⟨_, rfl, hfin.out, hb⟩

set_option maxRecDepth 100000 in
set_option maxHeartbeats 1000000 in
theorem union_any (p q : Option Addr) (n m : Nat) (L M : List F) (c d : Nat) (w : World) (hX : U w p n (L.map V)) (hY : U w q m (M.map V)) (hp : p = none → c = 0) (hn : n ≤ 1000) (hm : m ≤ 1000) :
    Calls Try.prog 11 #[.slice p n c, .slice q m d] w fun e w' => ∃ v, e = .returned v ∧ Own w' w.heap.size v (addsS L M).length ((addsS L M).map V) ∧ Below w.heap.size w w' := by
  have hXl := Lib.hid hX.len
  have hYl := Lib.hid hY.len
  have hL : Hid (L.length = n) := Lib.hid (by rw [← hXl.out, List.length_map])
  have hM : Hid (M.length = m) := Lib.hid (by rw [← hYl.out, List.length_map])
  have hown0 := Own.none_at w
  have hb0 : Below w.heap.size w (w.alloc (.cells #[] 40)) := Below.lit w _
  have hX0 := hX.below hb0
  have hsz0 := hb0.size
  go_enter Try.func11, Try.ntmps11
  go_wp2_with (at_builtin; refine app_many rfl _ _ rfl hown0 rfl rfl hX0 hp (by omega) hsz0 ?_; intro v' w1 hown1 hb1)
  rw [Nat.zero_add, List.nil_append] at hown1
  have hb01 := hb0.trans hb1
  clear hown0 hX0 hb0 hb1 hsz0
  go_wp2_with fail
  go_loopw [5, 6] (fun v i wr => ∃ (k r : Nat) (S : List F), k ≤ m ∧ i = .int .i64 k ∧ Own wr w.heap.size v r (S.map V) ∧ Hid (S = addsS L (M.take k)) ∧ Hid (S.length = r) ∧ r ≤ n + k ∧ Below w.heap.size w wr)
    (fun _ i _ => m - (intOf i).toNat)
  case atStart => exact ⟨0, n, L, Nat.zero_le _, rfl, hown1, Lib.hid rfl, hL, Nat.le_refl _, hb01⟩
  case round =>
    clear hown1 hb01
    obtain ⟨k, r, S, hk, rfl, hown, hS, hSl, hrk, hb⟩ := hrel
    obtain ⟨po, co, rfl, hco, hUo, hpo⟩ := hown.u'
    by_cases hlt : k < m
    · obtain ⟨b, off, rfl, _, hc1, hz0, hz1⟩ := (hY.below hb).look hlt
      obtain ⟨x, hx⟩ : ∃ x : F, Hid (M[k]'(by rw [hM.out]; exact hlt) = x) := ⟨_, Lib.hid rfl⟩
      have hst : Hid (addsS L (M.take (k + 1)) = addS S x) := Lib.hid (by
        rw [addsS_snoc L (by rw [hM.out]; exact hlt), ← hS.out, hx.out])
      rw [nth_V (by rw [hM.out]; exact hlt), hx.out] at hc1
      clear hx hS hz0 hz1
      go_wp2_with fail
      refine (Has_any po r _ co _ _ hUo (by omega)).mono ?_
      rintro e w1 ⟨⟨rfl, hin⟩ | ⟨rfl, hin⟩, rfl⟩
      · have hin2 : Hid (addS S x = S) := Lib.hid (addS_in (mem_V.1 hin))
        have hst2 : Hid (S = addsS L (M.take (k + 1))) := Lib.hid (by rw [hst.out, hin2.out])
        clear hin hin2 hst
        go_wp2_with fail
        go_roundw
        case rel => exact ⟨k + 1, r, S, by omega, by go_num, hown, hst2, hSl, by omega, hb⟩
        case measure => simp [intOf]; omega
      · have hin2 : Hid (addS S x = S ++ [x]) := Lib.hid (addS_out fun h => hin (mem_V.2 h))
        have hst2 : Hid (S ++ [x] = addsS L (M.take (k + 1))) := Lib.hid (by rw [hst.out, hin2.out])
        have hSl2 : Hid ((S ++ [x]).length = r + 1) := Lib.hid (by rw [List.length_append, hSl.out]; rfl)
        clear hin hin2 hst
        go_wp2_with (at_builtin; refine app_one rfl _ _ rfl hown rfl rfl ⟨V_lo x, V_64 x⟩ (by omega) hb.size ?_; intro v' w1 hown1 hb1)
        have hown2 : Own w1 w.heap.size v' (r + 1) ((S ++ [x]).map V) := by
          rw [List.map_append]; exact hown1
        go_roundw
        case rel => exact ⟨k + 1, r + 1, S ++ [x], by omega, by go_num, hown2, hst2, hSl2, by omega, hb.trans hb1⟩
        case measure => simp [intOf]; omega
    · have hfin : Hid (Own wr w.heap.size (.slice po r co) (addsS L M).length ((addsS L M).map V)) := Lib.hid (by
        have e : addsS L M = S := by rw [hS.out, List.take_of_length_le (by rw [hM.out]; omega)]
        rw [e, hSl.out]; exact hown)
      clear hS hSl
      go_wp2_with fail
      go_ret
      exact ⟨_, rfl, hfin.out, hb⟩
set_option maxRecDepth 100000 in
theorem rises_any (p : Option Addr) (n : Nat) (L : List F) (c : Nat) (w : World) (hX : U w p n (L.map V)) (hr : Rise L) (hn : n ≤ 1000000) :
    Calls Try.prog 19 #[.slice p n c] w fun e w' => e = .returned (.bool true) ∧ Below w.heap.size w w' := by
  have hL : Hid (L.length = n) := Lib.hid (by rw [← hX.len, List.length_map])
  have hr' := Lib.hid hr
  clear hr
  go_enter Try.func19, Try.ntmps19
  go_wp2_with fail
  go_loopw [3] (fun i wr => ∃ k : Nat, 1 ≤ k ∧ k ≤ n + 1 ∧ i = .int .i64 k ∧ Below w.heap.size w wr) (fun i _ => n + 1 - (intOf i).toNat)
  case atStart => exact ⟨1, by omega, by omega, rfl, Below.refl _ _⟩
  case round =>
    obtain ⟨k, hk1, hk, rfl, hb⟩ := hrel
    by_cases hlt : k < n
    · obtain ⟨j, rfl⟩ : ∃ j, k = j + 1 := ⟨k - 1, by omega⟩
      obtain ⟨b, off, rfl, _, hc1, _⟩ := (hX.below hb).look hlt
      have hc2 := (hX.below hb).cell (i := j) (by omega)
      rw [nth_V (by rw [hL.out]; omega)] at hc1 hc2
      have hd : decide (V (L[j + 1]'(by rw [hL.out]; omega)) ≤ V (L[j]'(by rw [hL.out]; omega))) = false := by
        have := List.pairwise_iff_getElem.1 hr'.out j (j + 1) (by rw [hL.out]; omega) (by rw [hL.out]; omega) (by omega)
        rw [decide_eq_false_iff_not]; omega
      have it0 : (0 : Int) ≤ ((j : Int) + 1) := by omega
      have it1 : ((j : Int) + 1) < (n : Int) := by omega
      have it2 : (0 : Int) ≤ (j : Int) := by omega
      have it3 : (j : Int) < (n : Int) := by omega
      have ej : (j : Int) + 1 - 1 = j := by omega
      have ew : IntKind.i64.wrap (j : Int) = j := IntWalk.i64_in _ (by omega)
      generalize V (L[j + 1]'(by rw [hL.out]; omega)) = u at *
      generalize V (L[j]'(by rw [hL.out]; omega)) = v at *
      go_wp2_with fail
      refine wp_region_still_lit (by kernel_rfl) (by kernel_rfl) ?_
      repeat still_step
      refine wpStill_nil ?_
      change Exit.then _ _ _ _ wr.drew
      go_wp2_with fail
      go_roundw
      case rel => exact ⟨j + 2, by omega, by omega, by go_num, hb.drew⟩
      case measure => simp [intOf]; omega
    · go_wp2_with fail
      go_ret
      exact ⟨rfl, hb⟩
set_option maxRecDepth 100000 in
theorem Nums2_any (p : Option Addr) (n : Nat) (xs : List Int) (c : Nat) (most : Nat) (w : World) (hU : U w p n xs) (hc : n ≤ c) (hp : p = none → c = 0) (hn : n ≤ most) (hm : most ≤ 1000000) :
    Calls Try.prog 23 #[.slice p n c, .int .i64 most] w fun e w' => ∃ v, e = .returned v ∧ Own w' w.heap.size v n xs ∧ Below w.heap.size w w' := by
  have hown := Own.nil w w.heap.size
  have hmin : min (n : Int) (most : Int) = n := by omega
  go_enter Try.func23, Try.ntmps23
  go_wp2_with (at_builtin; refine app_many rfl _ _ rfl hown rfl rfl hU hp (by omega) (Nat.le_refl _) ?_; intro v' w1 hown1 hb1)
  go_ret
  rw [Nat.zero_add, List.nil_append] at hown1
  exact ⟨v', rfl, hown1, hb1⟩
end Go.Proofs.Ytelnhpcehmdffaa

namespace Go.Proofs.Ytelnhpcehmdffaa
open Go.RowKit
attribute [local go_sem] T_V

theorem nodup_le : ∀ (l m : List F), l.Nodup → (∀ x ∈ l, x ∈ m) → l.length ≤ m.length := by
  intro l
  induction l with
  | nil => intro m _ _; exact Nat.zero_le _
  | cons a l ih =>
    intro m hd hm
    obtain ⟨k1, k2⟩ := List.nodup_cons.1 hd
    have ha := hm a (List.mem_cons_self ..)
    have := ih (m.erase a) k2 fun x hx => (List.mem_erase_of_ne (fun e => k1 (by rw [← e]; exact hx))).2 (hm x (List.mem_cons_of_mem _ hx))
    rw [List.length_erase_of_mem ha] at this
    have := List.length_pos_of_mem ha
    rw [List.length_cons]; omega
/-- What Only has put in its place. -/
structure OnlySt (L M : List F) (i : Nat) (S : List F) : Prop where
  rise : Rise S
  mem : ∀ x, x ∈ S ↔ x ∈ L.take i ∧ x ∉ M
theorem OnlySt.start (L M : List F) : OnlySt L M 0 [] := ⟨Rise.nil, fun x => by rw [List.take_zero]; simp⟩
theorem OnlySt.skip {L M : List F} {i : Nat} {S : List F} (h : OnlySt L M i S) (hi : i < L.length) (hm : L[i] ∈ M) : OnlySt L M (i + 1) S :=
  ⟨h.rise, fun x => by
    rw [h.mem, take_mem hi, coef_lt hi]
    exact ⟨fun ⟨h1, h2⟩ => ⟨.inr h1, h2⟩, fun ⟨h1, h2⟩ => ⟨h1.resolve_left fun e => h2 (e ▸ hm), h2⟩⟩⟩
theorem OnlySt.more {L M : List F} {i : Nat} {S : List F} (h : OnlySt L M i S) (hi : i < L.length) (hm : L[i] ∉ M) {k : Nat} (hk : k ≤ S.length) (h1 : ∀ j, j < k → V (coef S j) < V L[i]) (h2 : k < S.length → V L[i] < V (coef S k)) : OnlySt L M (i + 1) (S.take k ++ L[i] :: S.drop k) :=
  have a := h.rise.insert hk h1 h2
  ⟨a.1, fun x => by
    rw [a.2, h.mem, take_mem hi, coef_lt hi]
    exact ⟨fun h => h.elim (fun e => ⟨.inl e, e ▸ hm⟩) fun ⟨h1, h2⟩ => ⟨.inr h1, h2⟩, fun ⟨h1, h2⟩ => h1.elim .inl fun h => .inr ⟨h, h2⟩⟩⟩
/-- What is not yet there is no less than what comes. -/
theorem OnlySt.next {L M : List F} {i : Nat} {S : List F} (h : OnlySt L M i S) (hd : L.Nodup) (hi : i < L.length) {k : Nat} (hk : k < S.length) (hl : ¬ V (coef S k) < V L[i]) : V L[i] < V (coef S k) := by
  have h1 : coef S k ∈ S := by rw [coef_lt hk]; exact List.getElem_mem hk
  have h2 := ((h.mem _).1 h1).1
  have h3 : L[i] ∉ L.take i := fun hm => by
    obtain ⟨j, hj, e⟩ := List.mem_iff_getElem.1 hm
    rw [List.getElem_take] at e
    rw [List.length_take] at hj
    have := List.pairwise_iff_getElem.1 hd j i (by omega) hi (by omega)
    exact this e
  have h4 : V (coef S k) ≠ V L[i] := fun e => h3 (V_inj e ▸ h2)
  omega
/-- What only one of two has, rising. -/
def OnlyOf (L M S : List F) : Prop := Rise S ∧ ∀ x, x ∈ S ↔ x ∈ L ∧ x ∉ M
theorem OnlySt.done {L M : List F} {i : Nat} {S : List F} (h : OnlySt L M i S) (hi : L.length ≤ i) : OnlyOf L M S := ⟨h.rise, fun x => by rw [h.mem, List.take_of_length_le hi]⟩
theorem OnlySt.len {L M : List F} {i : Nat} {S : List F} (h : OnlySt L M i S) : S.length ≤ i := by
  have h1 : S.length ≤ (L.take i).length := by
    have := h.rise.nodup
    have hs : ∀ x ∈ S, x ∈ L.take i := fun x hx => ((h.mem x).1 hx).1
    exact nodup_le S _ this hs
  rw [List.length_take] at h1
  omega
set_option maxRecDepth 100000 in
set_option maxHeartbeats 4000000 in
theorem Only_any (p q : Option Addr) (n nq : Nat) (L M : List F) (c d : Nat) (w : World) (hX : U w p n (L.map V)) (hY : U w q nq (M.map V)) (hd : L.Nodup) (hn : n ≤ 1000) (hnq : nq ≤ 1000) :
    Calls Try.prog 13 #[.slice p n c, .slice q nq d] w fun e w' => ∃ v S, e = .returned v ∧ Own w' w.heap.size v S.length (S.map V) ∧ OnlyOf L M S ∧ Below w.heap.size w w' := by
  have hL : Hid (L.length = n) := Lib.hid (by rw [← hX.len, List.length_map])
  replace hd := Lib.hid hd
  go_enter Try.func13, Try.ntmps13
  go_wp2_with fail
  go_loopw [5, 6] (fun ov iv wr => ∃ (i m : Nat) (S : List F), i ≤ n ∧ iv = .int .i64 i ∧ Own wr w.heap.size ov m (S.map V) ∧ Hid (OnlySt L M i S) ∧ Hid (S.length = m) ∧ m ≤ i ∧ Below w.heap.size w wr)
    (fun _ iv _ => n - (intOf iv).toNat)
  case atStart => exact ⟨0, 0, [], Nat.zero_le _, rfl, Own.nil _ _, Lib.hid (OnlySt.start _ _), Lib.hid rfl, Nat.le_refl _, Below.refl _ _⟩
  case round =>
    obtain ⟨i, m, S, hi, rfl, hO, hst, hSl, hmi, hb⟩ := hrel
    obtain ⟨po, co, rfl, hco, hUo, hpo⟩ := hO.u'
    by_cases hlt : i < n
    · obtain ⟨b, off, rfl, _, hcell, hx0, hx1⟩ := (hX.below hb).look hlt
      have hil : Hid (i < L.length) := Lib.hid (by rw [hL.out]; exact hlt)
      rw [nth_V hil.out] at hcell
      clear hx0 hx1
      obtain ⟨x, hx⟩ : ∃ x : F, Hid (L[i]'hil.out = x) := ⟨_, Lib.hid rfl⟩
      rw [hx.out] at hcell
      go_wp2_with fail
      refine (Has_any q nq _ d _ _ (hY.below hb) (by omega)).mono ?_
      rintro e w1 ⟨⟨rfl, hin⟩ | ⟨rfl, hin⟩, rfl⟩
      · have hst2 : Hid (OnlySt L M (i + 1) S) := Lib.hid (hst.out.skip hil.out (by rw [hx.out]; exact mem_V.1 hin))
        clear hin hst
        go_wp2_with fail
        go_roundw
        case rel => exact ⟨i + 1, m, S, by omega, by go_num, hO, hst2, hSl, by omega, hb⟩
        case measure => simp [intOf]; omega
      · have hin2 : Hid (x ∉ M) := Lib.hid fun h => hin (mem_V.2 h)
        clear hin
        have hmore : Hid (∀ k, k ≤ m → Less S x k → (k < m → ¬ V (coef S k) < V x) → OnlySt L M (i + 1) (S.take k ++ x :: S.drop k)) := Lib.hid fun k hk hls hnl => by
          have h := hst.out.more hil.out (by rw [hx.out]; exact hin2.out) (k := k) (by rw [hSl.out]; exact hk)
          rw [hx.out] at h
          refine h hls fun hk2 => ?_
          have h3 := hst.out.next hd.out hil.out hk2
          rw [hx.out] at h3
          exact h3 (hnl (by rw [← hSl.out]; exact hk2))
        obtain ⟨wo, ewo⟩ : ∃ wo, Hid (w1 = wo) := ⟨_, Lib.hid rfl⟩
        rw [ewo.out] at hO hb hcell hUo
        go_wp2_with fail
        go_loopw [7] (fun kv wy => ∃ k : Nat, k ≤ m ∧ kv = .int .i64 k ∧ Hid (Less S x k) ∧ Below wo.heap.size wo wy) (fun kv _ => m - (intOf kv).toNat)
        case atStart => exact ⟨0, Nat.zero_le _, rfl, Lib.hid fun j hj => absurd hj (by omega), by rw [ewo.out]; exact Below.refl _ _⟩
        case round =>
          obtain ⟨k, hk, rfl, hls, hbk⟩ := hrel
          have hxk := (World.cell?_of_block (hbk.block b (cell_lt hcell))).trans hcell
          have hbi := hb.trans (hbk.mono hb.size)
          have hbid := hbi.drew
          have it0 : (0 : Int) ≤ (k : Int) := by omega
          have it2 : (0 : Int) ≤ (i : Int) := by omega
          have it3 : (i : Int) < (n : Int) := by omega
          by_cases hkm : k < m
          · obtain ⟨b2, off2, rfl, _, hck, _, _⟩ := (hUo.below hbk).look hkm
            rw [coef_nth (show k < S.length by rw [hSl.out]; exact hkm)] at hck
            have it1 : (k : Int) < (m : Int) := by omega
            have hdk : decide ((k : Int) < (m : Int)) = true := decide_eq_true it1
            by_cases hl : V (coef S k) < V x
            · have hl' : decide (V (coef S k) < V x) = true := decide_eq_true hl
              have hls2 : Hid (Less S x (k + 1)) := Lib.hid (hls.out.step hl)
              clear hl hls
              go_wp2_with fail
              go_quiet (fail)
              go_wp2_with fail
              go_roundw
              case rel => exact ⟨k + 1, by omega, by go_num, hls2, below_drewN hbk _⟩
              case measure => simp [intOf]; omega
            · have hl' : decide (V (coef S k) < V x) = false := decide_eq_false hl
              have hst2 : Hid (OnlySt L M (i + 1) (S.take k ++ x :: S.drop k)) := Lib.hid (hmore.out k hk hls.out fun _ => by omega)
              have hSl2 : Hid ((S.take k ++ x :: S.drop k).length = m + 1) := Lib.hid (by rw [List.length_append, List.length_cons, List.length_take, List.length_drop, hSl.out]; omega)
              have hle : V x ≤ V (coef S k) := by omega
              clear hl hls hmore
              go_wp2_with fail
              go_quiet (fail)
              have hb5 : Below wo.heap.size wo (wr.drewN nq) := below_drewN hbk _
              obtain ⟨w5, e5⟩ : ∃ w5, Hid (wr.drewN nq = w5) := ⟨_, Lib.hid rfl⟩
              rw [e5.out] at hb5 ⊢
              have hT1 := (hUo.below hb5).take hk
              go_wp2_with (first
                | (at_builtin; (with_reducible refine app_many rfl _ _ rfl (Own.nil _ w5.heap.size) rfl rfl hT1 (fun h => by cases h) (by omega) (Nat.le_refl _) ?_); (intro v1 w1 hO1 hb1; rw [Nat.zero_add, List.nil_append] at hO1; clear hT1; have hx6 := (World.cell?_of_block ((hb5.trans (hb1.mono hb5.size)).block b (cell_lt hcell))).trans hcell))
                | (at_builtin; (with_reducible refine app_one (y := V x) rfl _ _ rfl hO1 rfl rfl ⟨V_lo _, V_64 _⟩ (by omega) hb1.size ?_); (intro v2 w2 hO2 hb2; have hb12 := hb1.trans hb2; clear hO1))
                | (at_builtin; (with_reducible refine app_many rfl _ _ rfl hO2 rfl rfl (((hUo.below hb5).below hb12).drop k) (fun h => by cases h) (by omega) hb12.size ?_); (intro v3 w3 hO3 hb3)))
              have hO4 : Own w3 w.heap.size v3 (m + 1) ((S.take k ++ x :: S.drop k).map V) := by
                have h := hO3.base (show w.heap.size ≤ w5.heap.size by have := hb.size; have := hb5.size; omega)
                have e1 : k + 1 + (m - k) = m + 1 := by omega
                have e2 : ((S.map V).take k ++ [V x]) ++ (S.map V).drop k = (S.take k ++ x :: S.drop k).map V := by rw [List.map_append, List.map_cons, List.map_take, List.map_drop, List.append_assoc]; rfl
                rw [e1, e2] at h
                exact h
              have hb03 := hb.trans ((hb5.trans ((hb12.trans hb3).mono hb5.size)).mono hb.size)
              clear hO2 hO3
              go_wp2_with fail
              go_roundw
              case rel => exact ⟨i + 1, m + 1, _, by omega, by go_num, hO4, hst2, hSl2, by omega, hb03⟩
              case measure => simp [intOf]; omega
          · obtain rfl : k = m := by omega
            have hdk : decide ((k : Int) < (k : Int)) = false := by rw [decide_eq_false_iff_not]; omega
            have hst2 : Hid (OnlySt L M (i + 1) (S.take k ++ x :: S.drop k)) := Lib.hid (hmore.out k hk hls.out fun h => absurd h (Nat.lt_irrefl _))
            have hSl2 : Hid ((S.take k ++ x :: S.drop k).length = k + 1) := Lib.hid (by rw [List.length_append, List.length_cons, List.length_take, List.length_drop, hSl.out]; omega)
            clear hls hmore
            go_wp2_with fail
            go_quiet (fail)
            have hb5 : Below wo.heap.size wo (wr.drewN nq) := below_drewN hbk _
            obtain ⟨w5, e5⟩ : ∃ w5, Hid (wr.drewN nq = w5) := ⟨_, Lib.hid rfl⟩
            rw [e5.out] at hb5 ⊢
            have hT1 := (hUo.below hb5).take hk
            rcases hO.row.2 with ⟨hv, h0⟩ | ⟨g, cap, cur, hv, _⟩
            · injection hv with e1 _ e3
              subst e1
              subst e3
              have h0' : k = 0 := h0
              clear h0
              subst h0'
              go_wp2_with (first
                | (at_builtin; (with_reducible refine app_many rfl _ _ rfl (Own.nil _ w5.heap.size) rfl rfl hT1 (fun _ => rfl) (by omega) (Nat.le_refl _) ?_); (intro v1 w1 hO1 hb1; rw [Nat.zero_add, List.nil_append] at hO1; clear hT1; have hx6 := (World.cell?_of_block ((hb5.trans (hb1.mono hb5.size)).block b (cell_lt hcell))).trans hcell))
                | (at_builtin; (with_reducible refine app_one (y := V x) rfl _ _ rfl hO1 rfl rfl ⟨V_lo _, V_64 _⟩ (by omega) hb1.size ?_); (intro v2 w2 hO2 hb2; have hb12 := hb1.trans hb2; clear hO1))
                | (at_builtin; (with_reducible refine app_many rfl _ _ rfl hO2 rfl rfl (U.nil) (fun _ => rfl) (by omega) hb12.size ?_); (intro v3 w3 hO3 hb3)))
              have hO4 : Own w3 w.heap.size v3 (0 + 1) ((S.take 0 ++ x :: S.drop 0).map V) := by
                have h := hO3.base (show w.heap.size ≤ w5.heap.size by have := hb.size; have := hb5.size; omega)
                have e2 : ((S.map V).take 0 ++ [V x]) ++ [] = (S.take 0 ++ x :: S.drop 0).map V := by
                  rw [List.drop_of_length_le (by rw [hSl.out]; exact Nat.le_refl _), List.append_nil, List.map_append, List.map_take]; rfl
                rw [Nat.add_zero, e2] at h
                exact h
              have hb03 := hb.trans ((hb5.trans ((hb12.trans hb3).mono hb5.size)).mono hb.size)
              clear hO2 hO3
              go_wp2_with fail
              go_roundw
              case rel => exact ⟨i + 1, 0 + 1, _, by omega, by go_num, hO4, hst2, hSl2, by omega, hb03⟩
              case measure => simp [intOf]; omega
            · injection hv with e1 _ e3
              subst e1
              subst e3
              by_cases hkc : k = co
              · obtain rfl : co = k := hkc.symm
                go_wp2_with (first
                  | (at_builtin; (with_reducible refine app_many rfl _ _ rfl (Own.nil _ w5.heap.size) rfl rfl hT1 (fun h => by cases h) (by omega) (Nat.le_refl _) ?_); (intro v1 w1 hO1 hb1; rw [Nat.zero_add, List.nil_append] at hO1; clear hT1; have hx6 := (World.cell?_of_block ((hb5.trans (hb1.mono hb5.size)).block b (cell_lt hcell))).trans hcell))
                  | (at_builtin; (with_reducible refine app_one (y := V x) rfl _ _ rfl hO1 rfl rfl ⟨V_lo _, V_64 _⟩ (by omega) hb1.size ?_); (intro v2 w2 hO2 hb2; have hb12 := hb1.trans hb2; clear hO1))
                  | (at_builtin; (with_reducible refine app_many rfl _ _ rfl hO2 rfl rfl (U.nil) (fun h => by cases h) (by omega) hb12.size ?_); (intro v3 w3 hO3 hb3)))
                have hO4 : Own w3 w.heap.size v3 (co + 1) ((S.take co ++ x :: S.drop co).map V) := by
                  have h := hO3.base (show w.heap.size ≤ w5.heap.size by have := hb.size; have := hb5.size; omega)
                  have e2 : ((S.map V).take co ++ [V x]) ++ [] = (S.take co ++ x :: S.drop co).map V := by
                    rw [List.drop_of_length_le (by rw [hSl.out]; exact Nat.le_refl _), List.append_nil, List.map_append, List.map_take]; rfl
                  rw [e2] at h
                  exact h
                have hb03 := hb.trans ((hb5.trans ((hb12.trans hb3).mono hb5.size)).mono hb.size)
                clear hO2 hO3
                go_wp2_with fail
                go_roundw
                case rel => exact ⟨i + 1, co + 1, _, by omega, by go_num, hO4, hst2, hSl2, by omega, hb03⟩
                case measure => simp [intOf]; omega
              · have hkc' : k < co := by omega
                clear hkc
                go_wp2_with (first
                  | (at_builtin; (with_reducible refine app_many rfl _ _ rfl (Own.nil _ w5.heap.size) rfl rfl hT1 (fun h => by cases h) (by omega) (Nat.le_refl _) ?_); (intro v1 w1 hO1 hb1; rw [Nat.zero_add, List.nil_append] at hO1; clear hT1; have hx6 := (World.cell?_of_block ((hb5.trans (hb1.mono hb5.size)).block b (cell_lt hcell))).trans hcell))
                  | (at_builtin; (with_reducible refine app_one (y := V x) rfl _ _ rfl hO1 rfl rfl ⟨V_lo _, V_64 _⟩ (by omega) hb1.size ?_); (intro v2 w2 hO2 hb2; have hb12 := hb1.trans hb2; clear hO1))
                  | (at_builtin; (with_reducible refine app_many rfl _ _ rfl hO2 rfl rfl (U.nil) (fun h => by cases h) (by omega) hb12.size ?_); (intro v3 w3 hO3 hb3)))
                have hO4 : Own w3 w.heap.size v3 (k + 1) ((S.take k ++ x :: S.drop k).map V) := by
                  have h := hO3.base (show w.heap.size ≤ w5.heap.size by have := hb.size; have := hb5.size; omega)
                  have e2 : ((S.map V).take k ++ [V x]) ++ [] = (S.take k ++ x :: S.drop k).map V := by
                    rw [List.drop_of_length_le (by rw [hSl.out]; exact Nat.le_refl _), List.append_nil, List.map_append, List.map_take]; rfl
                  rw [e2] at h
                  exact h
                have hb03 := hb.trans ((hb5.trans ((hb12.trans hb3).mono hb5.size)).mono hb.size)
                clear hO2 hO3
                go_wp2_with fail
                go_roundw
                case rel => exact ⟨i + 1, k + 1, _, by omega, by go_num, hO4, hst2, hSl2, by omega, hb03⟩
                case measure => simp [intOf]; omega
    · have hfin : Hid (OnlyOf L M S) := Lib.hid (hst.out.done (by rw [hL.out]; omega))
      have hO' : Hid (Own wr w.heap.size (.slice po m co) S.length (S.map V)) := Lib.hid (by rw [hSl.out]; exact hO)
      go_wp2_with fail
      go_ret
      exact ⟨_, S, rfl, hO'.out, hfin.out, hb⟩
end Go.Proofs.Ytelnhpcehmdffaa

namespace Go.Proofs.Ytelnhpcehmdffaa
open Pol

/-- A set of elements. -/
structure SetOk (L : List F) : Prop where
  nd : L.Nodup
  bd : ∀ x, x ∈ L → 1 ≤ V x ∧ V x ≤ 1152921504606846976
theorem setF_ok (xs : List Int) : SetOk (setF xs) := ⟨setF_nodup xs, fun _ h => setF_bd xs h⟩
theorem SetOk.adds {L M : List F} (h : SetOk L) (k : SetOk M) : SetOk (addsS L M) :=
  ⟨addsS_nodup h.nd M, fun x hx => ((addsS_mem M).1 hx).elim (h.bd x) (k.bd x)⟩
theorem SetOk.ne {L : List F} (h : SetOk L) {k : Nat} (hk : k < 1000) : valF L (ptF k) ≠ 0 := fun e => by
  have := h.bd _ ((at_prodL _ L).1 e)
  rw [V_pt hk] at this
  omega
/-- Two lists fit two sets' sketches. -/
def FitsS (m : Nat) (L M X Y : List F) : Prop := Fits m ((L.length : Int) - M.length) (fun k => valF L (ptF k)) (fun k => valF M (ptF k)) X Y
theorem Fits.congr {n : Nat} {d : Int} {a b a' b' : Nat → F} {X Y : List F} (ha : ∀ k, k < n → a k = a' k) (hb : ∀ k, k < n → b k = b' k) (h : Fits n d a b X Y) : Fits n d a' b' X Y :=
  ⟨h.ndX, h.ndY, h.disj, h.rX, h.rY, h.few, h.diff, fun k hk => by rw [← ha k hk, ← hb k hk]; exact h.eqs k hk⟩
theorem FitsS.turn {m : Nat} {L M X Y : List F} (h : FitsS m L M X Y) : FitsS m M L Y X := by
  have := Fits.turn h
  rwa [show -((L.length : Int) - M.length) = (M.length : Int) - L.length by omega] at this
theorem prodL_app (L M : List F) : prodL (L ++ M) = prodL L * prodL M := by
  induction L with
  | nil => show prodL M = 1 * prodL M; grind
  | cons x L ih => show prodL (x :: (L ++ M)) = _; rw [prodL, ih, prodL]; grind
theorem valF_app (L M : List F) (z : F) : valF (L ++ M) z = valF L z * valF M z := by
  unfold valF; rw [prodL_app, at_mul]
theorem OnlyOf.perm {L M X Y : List F} (hL : L.Nodup) (hM : M.Nodup) (hX : OnlyOf L M X) (hY : OnlyOf M L Y) : (L ++ Y).Perm (M ++ X) := by
  refine (List.perm_ext_iff_of_nodup ?_ ?_).2 fun x => ?_
  · exact List.nodup_append.2 ⟨hL, hY.1.nodup, fun a ha b hb e => ((hY.2 b).1 hb).2 (e ▸ ha)⟩
  · exact List.nodup_append.2 ⟨hM, hX.1.nodup, fun a ha b hb e => ((hX.2 b).1 hb).2 (e ▸ ha)⟩
  · rw [List.mem_append, List.mem_append, hX.2, hY.2]
    by_cases h1 : x ∈ L <;> by_cases h2 : x ∈ M <;> simp [h1, h2]
/-- What only the one, and the other one, has fits, if there are values enough. -/
theorem OnlyOf.fits {m : Nat} {L M X Y : List F} (hL : SetOk L) (hM : SetOk M) (hX : OnlyOf L M X) (hY : OnlyOf M L Y) (hf : X.length + Y.length + 2 ≤ m) : FitsS m L M X Y := by
  have hp := OnlyOf.perm hL.nd hM.nd hX hY
  have hl := hp.length_eq
  rw [List.length_append, List.length_append] at hl
  refine ⟨hX.1.nodup, hY.1.nodup, fun x h1 h2 => ((hY.2 x).1 h2).2 ((hX.2 x).1 h1).1, fun x h => hL.bd x ((hX.2 x).1 h).1, fun x h => hM.bd x ((hY.2 x).1 h).1, hf, by omega, fun k _ => ?_⟩
  show valF L (ptF k) * valF Y (ptF k) = valF M (ptF k) * valF X (ptF k)
  rw [← valF_app, ← valF_app]
  unfold valF
  rw [prodL_perm hp]
theorem FitsS.same {m : Nat} {L M X Y X2 Y2 : List F} (hm : m ≤ 1000) (hL : SetOk L) (hM : SetOk M) (h : FitsS m L M X Y) (k : FitsS m L M X2 Y2) (r1 : Rise X) (r2 : Rise Y) (r3 : Rise X2) (r4 : Rise Y2) : X = X2 ∧ Y = Y2 := by
  have := Fits.only h k hm (fun i hi => hL.ne (by omega)) (fun i hi => hM.ne (by omega))
  exact ⟨r1.same r3 this.1, r2.same r4 this.2⟩
theorem FitsS.nil {m : Nat} (hm : 2 ≤ m) (L : List F) : FitsS m L L [] [] :=
  ⟨List.nodup_nil, List.nodup_nil, fun _ h => (by cases h), fun _ h => (by cases h), fun _ h => (by cases h), (by simpa using hm), (by simp), fun _ _ => rfl⟩
theorem OnlyOf.sub {L M X N : List F} (h : OnlyOf L M X) (hs : ∀ x, x ∈ L → x ∉ M → x ∈ N) : X.length ≤ N.length :=
  nodup_le X N h.1.nodup fun x hx => hs x ((h.2 x).1 hx).1 ((h.2 x).1 hx).2
theorem DiffIs.sets {m : Nat} {L M : List F} {ok : Bool} {X Y : List F} (h : DiffIs m ((L.length : Int) - M.length) (rowF ((valsL L m).map V)) (rowF ((valsL M m).map V)) ok X Y) : (ok = true ∧ FitsS m L M X Y ∧ Rise X ∧ Rise Y) ∨ (ok = false ∧ ∀ X Y, ¬ FitsS m L M X Y) := by
  have e : ∀ (L : List F) k, k < m → rowF ((valsL L m).map V) k = valF L (ptF k) := fun L k hk => by
    unfold rowF; rw [nth_vals hk, T_V]
  rcases h with ⟨h1, h2, h3⟩ | ⟨h1, h2⟩
  · exact .inl ⟨h1, h2.congr (e L) (e M), h3⟩
  · exact .inr ⟨h1, fun X Y h => h2 X Y (Fits.congr (fun k hk => (e L k hk).symm) (fun k hk => (e M k hk).symm) h)⟩
end Go.Proofs.Ytelnhpcehmdffaa

namespace Go.Proofs.Ytelnhpcehmdffaa
open Go.RowKit
attribute [local go_sem] T_V

/-- A set as what a call returns. -/
def RetsL (e : Ending) (w' : World) (base : Nat) (L : List F) : Prop := ∃ p c, e = .returned (.slice p L.length c) ∧ U w' p L.length (L.map V) ∧ L.length ≤ c ∧ (p = none → c = 0) ∧ Own w' base (.slice p L.length c) L.length (L.map V)
theorem Own.retsL {w : World} {base : Nat} {v : Value} {L : List F} (h : Own w base v L.length (L.map V)) : RetsL (.returned v) w base L := by
  obtain ⟨p, c, rfl, hc, hU, hp⟩ := h.u'
  exact ⟨p, c, rfl, hU, hc, hp, h⟩
theorem Set_s {p : Option Addr} {n : Nat} {xs : List Int} {c : Nat} {w : World} (hU : U w p n xs) (hn : n ≤ 9223372036854775807) :
    Calls Try.prog 12 #[.slice p n c] w fun e w' => RetsL e w' w.heap.size (setF xs) ∧ Below w.heap.size w w' :=
  (Set_any p n xs c w hU hn).mono fun _ _ ⟨_, he, ho, hb⟩ => ⟨he ▸ ho.retsL, hb⟩
theorem union_s {p q : Option Addr} {L M : List F} {c : Nat} (d : Nat) {w : World} (hX : U w p L.length (L.map V)) (hY : U w q M.length (M.map V)) (hp : p = none → c = 0) (hn : L.length ≤ 1000) (hm : M.length ≤ 1000) :
    Calls Try.prog 11 #[.slice p L.length c, .slice q M.length d] w fun e w' => RetsL e w' w.heap.size (addsS L M) ∧ Below w.heap.size w w' :=
  (union_any p q _ _ L M c d w hX hY hp hn hm).mono fun _ _ ⟨_, he, ho, hb⟩ => ⟨he ▸ ho.retsL, hb⟩
/-- What only one has as what a call returns. -/
def RetsO (e : Ending) (w' : World) (L M : List F) : Prop := ∃ p c S, e = .returned (.slice p S.length c) ∧ U w' p S.length (S.map V) ∧ S.length ≤ c ∧ (p = none → c = 0) ∧ Hid (OnlyOf L M S)
theorem Only_s {p q : Option Addr} {L M : List F} (c d : Nat) {w : World} (hX : U w p L.length (L.map V)) (hY : U w q M.length (M.map V)) (hd : L.Nodup) (hn : L.length ≤ 1000) (hm : M.length ≤ 1000) :
    Calls Try.prog 13 #[.slice p L.length c, .slice q M.length d] w fun e w' => RetsO e w' L M ∧ Below w.heap.size w w' :=
  (Only_any p q _ _ L M c d w hX hY hd hn hm).mono fun _ _ ⟨v, S, he, ho, hs, hb⟩ => by
    obtain ⟨p, c, rfl, hc, hU, hp⟩ := ho.u'
    exact ⟨⟨p, c, S, he, hU, hc, hp, Lib.hid hs⟩, hb⟩
/-- A sketch as what a call returns. -/
def RetsK (e : Ending) (w' : World) (n m : Nat) (L : List F) : Prop := ∃ q d, e = .returned (.agg #[.int .i64 n, .slice q m d]) ∧ U w' q m ((valsL L m).map V) ∧ m ≤ d ∧ (q = none → d = 0)
theorem Of_s {p : Option Addr} {n : Nat} {L : List F} (c : Nat) {w : World} (m : Nat) {z : Int} (hz : z = m) (hX : U w p n (L.map V)) (hn : n ≤ 1000000) (hm : m < 1000) :
    Calls Try.prog 16 #[.slice p n c, .int .i64 z] w fun e w' => RetsK e w' n m L ∧ Below w.heap.size w w' := by
  subst hz
  refine (SkOf_any p n _ c m w hX hn hm).mono fun _ _ ⟨v, he, ho, hb⟩ => ?_
  rw [map_TV] at ho
  obtain ⟨q, d, rfl, hc, hU, hp⟩ := ho.u'
  exact ⟨⟨q, d, he, hU, hc, hp⟩, hb⟩
/-- What Diff returns, of sets. -/
def RetsD (e : Ending) (w' : World) (base : Nat) (m : Nat) (L M : List F) : Prop :=
  (∃ X Y p1 c1 p2 c2, e = .returned (.tuple #[.slice p1 X.length c1, .slice p2 Y.length c2, .int .i64 0]) ∧ Own w' base (.slice p1 X.length c1) X.length (X.map V) ∧ Own w' base (.slice p2 Y.length c2) Y.length (Y.map V) ∧ Hid (FitsS m L M X Y ∧ Rise X ∧ Rise Y)) ∨
  (e = .returned (.tuple #[.slice none 0 0, .slice none 0 0, .int .i64 32]) ∧ Hid (∀ X Y, ¬ FitsS m L M X Y))
theorem Diff_s {pa pb : Option Addr} {m na nb : Nat} {L M : List F} (ca cb : Nat) {w : World} (hA : U w pa m ((valsL L m).map V)) (hB : U w pb m ((valsL M m).map V)) (hL : L.length = na) (hM : M.length = nb) (hm : m ≤ 100) (ha : na ≤ 1000000) (hb : nb ≤ 1000000) (hMo : SetOk M)
    (hfew : m ≤ 14 ∨ ∃ X Y, FitsS m L M X Y ∧ X.length ≤ 12 ∧ Y.length ≤ 12) :
    Calls Try.prog 15 #[.agg #[.int .i64 na, .slice pa m ca], .agg #[.int .i64 nb, .slice pb m cb]] w fun e w' => RetsD e w' w.heap.size m L M ∧ Below w.heap.size w w' := by
  subst hL hM
  have e : ∀ (L : List F) k, k < m → rowF ((valsL L m).map V) k = valF L (ptF k) := fun L k hk => by
    unfold rowF; rw [nth_vals hk, T_V]
  refine (Diff_any pa pb m ca cb _ _ _ _ w hA hB hm ha hb (fun k hk => ?_) (fun k hk => ?_) (fun k hk => ?_) ?_).mono ?_
  · rw [e M k hk]; exact hMo.ne (by omega)
  · rw [e L k hk, nth_vals hk]
  · rw [e M k hk, nth_vals hk]
  · exact hfew.imp id fun ⟨X, Y, h, h1, h2⟩ => ⟨X, Y, Fits.congr (fun k hk => (e L k hk).symm) (fun k hk => (e M k hk).symm) h, h1, h2⟩
  · rintro _ _ ⟨⟨X, Y, ⟨p1, c1, p2, c2, he, h1, h2⟩, h3⟩ | ⟨he, h3⟩, hbw⟩
    · rcases DiffIs.sets h3 with ⟨_, h4⟩ | ⟨h4, _⟩
      · exact ⟨.inl ⟨X, Y, p1, c1, p2, c2, he, h1, h2, Lib.hid h4⟩, hbw⟩
      · cases h4
    · rcases DiffIs.sets h3 with ⟨h4, _⟩ | ⟨_, h4⟩
      · cases h4
      · exact ⟨.inr ⟨he, Lib.hid h4⟩, hbw⟩
/-- Same, where it is so. -/
theorem Same_s {p q : Option Addr} {n m : Nat} {xs ys : List Int} (c d : Nat) {w : World} (hX : U w p n xs) (hY : U w q m ys) (he : xs = ys) (hn : n ≤ 1000000) :
    Calls Try.prog 17 #[.slice p n c, .slice q m d] w fun e w' => e = .returned (.bool true) ∧ Below w.heap.size w w' :=
  (Same_any p q n m xs ys c d w hX hY hn (by have := hX.len; have := hY.len; rw [he] at *; omega)).mono fun _ _ ⟨h, hb⟩ => ⟨h.elim (fun h => h.1) fun h => absurd he h.2, hb⟩
end Go.Proofs.Ytelnhpcehmdffaa

namespace Go.Proofs.Ytelnhpcehmdffaa

def exA : List F := [T 3, T 5, T 8]
def exB : List F := [T 5, T 9]
def exX : List F := [T 3, T 8]
def exY : List F := [T 9]
theorem exA_V : exA.map V = [3, 5, 8] := by decide
theorem exB_V : exB.map V = [5, 9] := by decide
theorem exX_V : exX.map V = [3, 8] := by decide
theorem exY_V : exY.map V = [9] := by decide
theorem ex_bd {L : List F} (h : L.all fun x => decide (1 ≤ V x) && decide (V x ≤ 1152921504606846976) = true) : ∀ x, x ∈ L → 1 ≤ V x ∧ V x ≤ 1152921504606846976 := fun x hx => by
  have := List.all_eq_true.1 h x hx
  simpa using this
theorem exA_ok : SetOk exA := ⟨by unfold exA; decide, ex_bd (by decide +kernel)⟩
theorem exB_ok : SetOk exB := ⟨by unfold exB; decide, ex_bd (by decide +kernel)⟩
theorem exX_of : OnlyOf exA exB exX := by
  refine ⟨by unfold exX Rise; decide, fun x => ?_⟩
  unfold exA exB exX
  simp only [List.mem_cons, List.not_mem_nil, or_false]
  constructor
  · rintro (rfl | rfl) <;> decide
  · rintro ⟨rfl | rfl | rfl, h⟩
    · exact .inl rfl
    · exact absurd (.inl rfl) h
    · exact .inr rfl
theorem exY_of : OnlyOf exB exA exY := by
  refine ⟨by unfold exY Rise; decide, fun x => ?_⟩
  unfold exA exB exY
  simp only [List.mem_cons, List.not_mem_nil, or_false]
  constructor
  · rintro rfl; decide
  · rintro ⟨rfl | rfl, h⟩
    · exact absurd (.inr (.inl rfl)) h
    · rfl
theorem ex_yes : FitsS 5 exA exB exX exY := OnlyOf.fits exA_ok exB_ok exX_of exY_of (by decide)
theorem val1 (x z : F) : valF [x] z = z - x := by
  have := valF_snoc [] x z
  rw [valF_nil] at this
  rw [show [x] = [] ++ [x] from rfl, this]; grind
theorem val2 (x y z : F) : valF [x, y] z = (z - x) * (z - y) := by
  have := valF_snoc [x] y z
  rw [val1] at this
  exact this
theorem val3 (x y u z : F) : valF [x, y, u] z = (z - x) * (z - y) * (z - u) := by
  have := valF_snoc [x, y] u z
  rw [val2] at this
  exact this
theorem lin_out (a b u c d v x : F) (h1 : a = b * (u - x)) (h2 : c = d * (v - x)) (h : b = d + 1) : x = b * u - d * v - a + c := by
  subst h1 h2 h
  grind
theorem ex_no (X Y : List F) : ¬ FitsS 4 exA exB X Y := fun h => by
  have h1 := h.few
  have h2 := h.diff
  have e1 : exA.length = 3 := rfl
  have e2 : exB.length = 2 := rfl
  rw [e1, e2] at h2
  obtain ⟨x, rfl⟩ : ∃ x, X = [x] := List.length_eq_one_iff.1 (by omega)
  obtain rfl : Y = [] := List.eq_nil_of_length_eq_zero (by simp at h2; omega)
  have key : ∀ k, k < 4 → (ptF k - T 3) * (ptF k - T 8) = (ptF k - T 9) * (ptF k - x) := fun k hk => by
    have := h.eqs k hk
    have e : valF exA (ptF k) * valF [] (ptF k) = valF exB (ptF k) * valF [x] (ptF k) := this
    rw [valF_nil, val1] at e
    unfold exA exB at e
    rw [val2, val3] at e
    have h5 : ptF k - T 5 ≠ 0 := fun e5 => by
      have e6 : ptF k = T 5 := by grind
      have := V_pt (show k < 1000 by omega)
      rw [e6] at this
      have e7 : V (T 5) = 5 := by decide
      omega
    have e8 : (ptF k - T 5) * ((ptF k - T 3) * (ptF k - T 8) - (ptF k - T 9) * (ptF k - x)) = 0 := by grind
    have := ((mul_eq_zero' _ _).1 e8).resolve_left h5
    grind
  have k0 := key 0 (by omega)
  have k1 := key 1 (by omega)
  have p0 : ptF 0 = T 2305843009213693950 := by decide
  have p1 : ptF 1 = T 2305843009213693949 := by decide
  have m0 : T 2305843009213693950 = -1 := by decide
  have m1 : T 2305843009213693949 = -2 := by decide
  rw [p0, m0] at k0
  rw [p1, m1] at k1
  have hx := lin_out _ _ _ _ _ _ x k0 k1 (by decide)
  rw [hx] at k0
  exact absurd k0 (by decide)
end Go.Proofs.Ytelnhpcehmdffaa

namespace Go.Proofs.Ytelnhpcehmdffaa
open Go.RowKit
attribute [local go_sem] T_V

set_option maxRecDepth 100000 in
set_option maxHeartbeats 2000000 in
theorem lives10  (w : World)  :
    Calls Try.prog 18 #[] w fun e w' => e = .returned (.bool true) ∧ Below w.heap.size w w' := by
  go_enter Try.func18, Try.ntmps18
  have hA := U_lit w 40 [3, 5, 8] #[.int .u64 3, .int .u64 5, .int .u64 8] 3 rfl rfl (by decide)
  have hbl := Below.lit w (.cells #[.int .u64 3, .int .u64 5, .int .u64 8] 40)
  have hb := hbl
  clear hbl
  rw [← exA_V] at hA
  go_wp2_with fail
  refine (Of_s _ 5 rfl hA (by omega) (by omega)).mono ?_
  rintro e w1 ⟨⟨q1, d1, rfl, k1, hd1, hq1⟩, hb1⟩
  clear hA
  replace hb := hb.trans (hb1.mono hb.size)
  clear hb1
  have hB := U_lit w1 40 [5, 9] #[.int .u64 5, .int .u64 9] 2 rfl rfl (by decide)
  have hbl := Below.lit w1 (.cells #[.int .u64 5, .int .u64 9] 40)
  replace k1 := k1.below hbl
  replace hb := hb.trans (hbl.mono hb.size)
  clear hbl
  rw [← exB_V] at hB
  go_wp2_with fail
  refine (Of_s _ 5 rfl hB (by omega) (by omega)).mono ?_
  rintro e w2 ⟨⟨q2, d2, rfl, k2, hd2, hq2⟩, hb2⟩
  clear hB
  replace k1 := k1.below hb2
  replace hb := hb.trans (hb2.mono hb.size)
  clear hb2
  go_wp2_with fail
  refine (Diff_s (na := 3) (nb := 2) d1 d2 k1 k2 rfl rfl (by omega) (by omega) (by omega) exB_ok (.inl (by omega))).mono ?_
  rintro e w3 ⟨hD, hb3⟩
  clear k1 k2
  replace hb := hb.trans (hb3.mono hb.size)
  clear hb3
  rcases hD with ⟨X, Y, p1, c1, p2, c2, rfl, hX, hY, hf⟩ | ⟨_, hno⟩
  rotate_left
  · exact absurd ex_yes (hno.out _ _)
  have hf2 := FitsS.same (by omega) exA_ok exB_ok hf.out.1 ex_yes hf.out.2.1 hf.out.2.2 exX_of.1 exY_of.1
  obtain ⟨rfl, rfl⟩ := hf2
  have hA := U_lit w3 40 [3, 5, 8] #[.int .u64 3, .int .u64 5, .int .u64 8] 3 rfl rfl (by decide)
  have hbl := Below.lit w3 (.cells #[.int .u64 3, .int .u64 5, .int .u64 8] 40)
  replace hX := hX.below hbl
  replace hY := hY.below hbl
  replace hb := hb.trans (hbl.mono hb.size)
  clear hbl
  rw [← exA_V] at hA
  go_wp2_with fail
  refine (Of_s _ 4 rfl hA (by omega) (by omega)).mono ?_
  rintro e w4 ⟨⟨q4, d4, rfl, k4, hd4, hq4⟩, hb4⟩
  clear hA
  replace hX := hX.below hb4
  replace hY := hY.below hb4
  replace hb := hb.trans (hb4.mono hb.size)
  clear hb4
  have hB := U_lit w4 40 [5, 9] #[.int .u64 5, .int .u64 9] 2 rfl rfl (by decide)
  have hbl := Below.lit w4 (.cells #[.int .u64 5, .int .u64 9] 40)
  replace hX := hX.below hbl
  replace hY := hY.below hbl
  replace k4 := k4.below hbl
  replace hb := hb.trans (hbl.mono hb.size)
  clear hbl
  rw [← exB_V] at hB
  go_wp2_with fail
  refine (Of_s _ 4 rfl hB (by omega) (by omega)).mono ?_
  rintro e w5 ⟨⟨q5, d5, rfl, k5, hd5, hq5⟩, hb5⟩
  clear hB
  replace hX := hX.below hb5
  replace hY := hY.below hb5
  replace k4 := k4.below hb5
  replace hb := hb.trans (hb5.mono hb.size)
  clear hb5
  go_wp2_with fail
  refine (Diff_s (na := 3) (nb := 2) d4 d5 k4 k5 rfl rfl (by omega) (by omega) (by omega) exB_ok (.inl (by omega))).mono ?_
  rintro e w6 ⟨hD, hb6⟩
  clear k4 k5
  replace hX := hX.below hb6
  replace hY := hY.below hb6
  replace hb := hb.trans (hb6.mono hb.size)
  clear hb6
  rcases hD with ⟨X2, Y2, p3, c3, p4, c4, rfl, hX2, hY2, hf3⟩ | ⟨rfl, _⟩
  · exact absurd hf3.out.1 (ex_no _ _)
  obtain ⟨_, _, hvx, _, hX⟩ := hX.u
  injection hvx with ex1 _ ex2
  subst ex1
  subst ex2
  obtain ⟨_, _, hvy, _, hY⟩ := hY.u
  injection hvy with ey1 _ ey2
  subst ey1
  subst ey2
  have hP := U_lit w6 40 [3, 8] #[.int .u64 3, .int .u64 8] 2 rfl rfl (by decide)
  have hbl := Below.lit w6 (.cells #[.int .u64 3, .int .u64 8] 40)
  replace hX := hX.below hbl
  replace hY := hY.below hbl
  replace hb := hb.trans (hbl.mono hb.size)
  clear hbl
  go_wp2_with fail
  refine (Same_s _ _ hX hP exX_V (by decide)).mono ?_
  rintro e w7 ⟨rfl, hb7⟩
  clear hX hP
  replace hY := hY.below hb7
  replace hb := hb.trans (hb7.mono hb.size)
  clear hb7
  have hQ := U_lit w7 40 [9] #[.int .u64 9] 1 rfl rfl (by decide)
  have hbl := Below.lit w7 (.cells #[.int .u64 9] 40)
  replace hY := hY.below hbl
  replace hb := hb.trans (hbl.mono hb.size)
  clear hbl
  go_wp2_with fail
  refine (Same_s _ _ hY hQ exY_V (by decide)).mono ?_
  rintro e w8 ⟨rfl, hb8⟩
  clear hY hQ
  replace hb := hb.trans (hb8.mono hb.size)
  clear hb8
  go_wp2_with fail
  go_ret
  exact ⟨rfl, hb⟩
end Go.Proofs.Ytelnhpcehmdffaa

namespace Go.Proofs.Ytelnhpcehmdffaa
open Go.RowKit

theorem set_facts (xs : List Int) : ∃ A, Hid (setF xs = A) ∧ Hid (SetOk A) ∧ A.length ≤ 12 := ⟨_, Lib.hid rfl, Lib.hid (setF_ok xs), setF_len xs⟩
theorem un_facts {S K : List F} (h : Hid (SetOk S)) (k : Hid (SetOk K)) (h1 : S.length ≤ 12) (k1 : K.length ≤ 12) : ∃ A, Hid (addsS S K = A) ∧ Hid (SetOk A) ∧ A.length ≤ 24 ∧ Hid (∀ x, x ∈ A ↔ x ∈ S ∨ x ∈ K) :=
  ⟨_, Lib.hid rfl, Lib.hid (h.out.adds k.out), by have := addsS_len S K; omega, Lib.hid fun _ => addsS_mem K⟩
/-- What only one union has is of its own part. -/
theorem only_few {S K M A B X : List F} (hA : Hid (∀ x, x ∈ A ↔ x ∈ S ∨ x ∈ K)) (hB : Hid (∀ x, x ∈ B ↔ x ∈ M ∨ x ∈ K)) (hX : Hid (OnlyOf A B X)) (hS : S.length ≤ 12) : X.length ≤ 12 :=
  Nat.le_trans (hX.out.sub fun x h1 h2 => ((hA.out x).1 h1).resolve_right fun h => h2 ((hB.out x).2 (.inr h))) hS
theorem around_nat (z : Int) (k : Nat) (hk : 0 < k) : ∃ r : Nat, Hid (around z (k : Int) = (r : Int)) ∧ r < k := by
  have := around_bd z k (by omega)
  exact ⟨(around z k).toNat, Lib.hid (by omega), by omega⟩
/-- A sketch in a variable of one's own. -/
structure BoxAt (w : World) (b : Nat) (n : Int) (v : Value) : Prop where
  c0 : w.cell? ⟨b, 0, none⟩ = some (.int .i64 n)
  c1 : w.cell? ⟨b, 1, none⟩ = some v
theorem BoxAt.below {w w' : World} {b : Nat} {n : Int} {v : Value} (h : BoxAt w b n v) (hb : Below w.heap.size w w') : BoxAt w' b n v :=
  ⟨(World.cell?_of_block (hb.block b (cell_lt h.c0))).trans h.c0, (World.cell?_of_block (hb.block b (cell_lt h.c1))).trans h.c1⟩
theorem box_new (W : World) (n : Int) (v : Value) : BoxAt (W.alloc (.cells #[.int .i64 n, v] 30)) W.heap.size n v ∧ Below W.heap.size W (W.alloc (.cells #[.int .i64 n, v] 30)) :=
  have h0 := Arr.new W 30 [.int .i64 n, v]
  ⟨⟨h0.cell (i := 0) (by simp), h0.cell (i := 1) (by simp)⟩, Below.lit W _⟩
end Go.Proofs.Ytelnhpcehmdffaa

