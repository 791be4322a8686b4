/-
  The contracts of the program's polynomials (1): what is trimmed, what is made of each coefficient, and sums.
-/
import Derived.Test.YtelnhpcehmdffaaFieldC
import Derived.Test.YtelnhpcehmdffaaMem
import Derived.Test.YtelnhpcehmdffaaGa
import Derived.Outline
namespace Go.Proofs.Ytelnhpcehmdffaa
open Go.RowKit
attribute [local go_sem] T_V

/-- A slice of field numbers, as a result. -/
def Fs (w : World) (v : Value) (fs : List F) : Prop := ∃ p n c, v = .slice p n c ∧ n ≤ c ∧ U w p n (fs.map V)
theorem Fs.below {w w' : World} {v : Value} {fs : List F} (h : Fs w v fs) (hb : Below w.heap.size w w') : Fs w' v fs := by
  obtain ⟨p, n, c, hv, hc, hU⟩ := h
  exact ⟨p, n, c, hv, hc, hU.below hb⟩

theorem V_inj_zero (x : F) : (V x == 0) = (x == 0) := by
  rw [Bool.eq_iff_iff, beq_iff_eq, beq_iff_eq, V_eq_zero]
theorem nth_V {fs : List F} {k : Nat} (h : k < fs.length) : nth (fs.map V) k = V fs[k] := by rw [nth_eq (by simpa using h), List.getElem_map]

set_option maxRecDepth 100000 in
theorem trim_any (p : Option Addr) (n : Nat) (fs : List F) (c : Nat) (w : World) (hU : U w p n (fs.map V)) (hc : n ≤ c) (hl : n ≤ 9223372036854775807) :
    Calls Try.prog 49 #[.slice p n c] w fun e w' => ∃ v, e = .returned v ∧ Fs w v (trimF fs) ∧ w = w' := by
  have hn : fs.length = n := by simpa using hU.len
  go_enter Try.func49, Try.ntmps49
  go_wp2
  go_loop [0] (fun a => ∃ k : Nat, k ≤ n ∧ a = .slice p k c ∧ Hid (trimF (fs.take k) = trimF fs)) (fun a => match a with | .slice _ k _ => k | _ => 0)
  case atStart => exact ⟨n, Nat.le_refl _, rfl, Lib.hid (by rw [List.take_of_length_le (by omega)])⟩
  case round =>
    obtain ⟨k, hk, rfl, ht⟩ := hrel
    by_cases h0 : 0 < k
    · obtain ⟨b, off, rfl, hb, hcell, _, _⟩ := hU.look (i := k - 1) (by omega)
      rw [nth_V (by omega)] at hcell
      by_cases hz : fs[k - 1]'(by omega) = 0
      · have hz' : (V (fs[k - 1]'(by omega)) == 0) = true := by rw [V_inj_zero, beq_iff_eq]; exact hz
        have ht' : Hid (trimF (fs.take (k - 1)) = trimF fs) := Lib.hid (by
          have := trimF_take fs (k - 1) (by omega) hz
          rw [show k - 1 + 1 = k by omega] at this
          rw [← this]; exact ht.out)
        clear hz ht
        go_wp2
        go_round
        case rel => exact ⟨k - 1, by omega, rfl, ht'⟩
        case measure => show k - 1 < k; omega
      · have hz' : (V (fs[k - 1]'(by omega)) == 0) = false := by rw [V_inj_zero, beq_eq_false_iff_ne]; exact hz
        have ht' : Hid (trimF fs = fs.take k) := Lib.hid (by
          have := trimF_take_ne fs (k - 1) (by omega) hz
          rw [show k - 1 + 1 = k by omega] at this
          rw [← this]; exact ht.out.symm)
        clear hz ht
        have hfin : Fs w (.slice (some ⟨b, off, none⟩) k c) (trimF fs) := by
          rw [ht'.out]
          exact ⟨_, k, c, rfl, by omega, by rw [List.map_take]; exact hU.take hk⟩
        go_wp2
        go_ret
        exact ⟨_, rfl, hfin, rfl⟩
    · obtain rfl : k = 0 := by omega
      have ht' : Hid (trimF fs = []) := Lib.hid (by rw [← ht.out]; rfl)
      clear ht
      have hfin : Fs w (.slice p 0 c) (trimF fs) := by
        rw [ht'.out]
        exact ⟨_, 0, c, rfl, Nat.zero_le _, U.nil⟩
      go_wp2
      go_ret
      exact ⟨_, rfl, hfin, rfl⟩

/-- What is made of each coefficient. -/
def eachF (g : Nat → Int → F) (xs : List Int) : List F := (List.range xs.length).map fun i => g i (nth xs i)

theorem eachF_length (g : Nat → Int → F) (xs : List Int) : (eachF g xs).length = xs.length := by simp [eachF]
theorem eachF_map (h : Int → F) (xs : List Int) : eachF (fun _ x => h x) xs = xs.map h := by
  apply List.ext_getElem
  · simp [eachF]
  · intro i h1 h2
    rw [eachF_length] at h1
    simp [eachF, nth_eq h1]
/-- The array of each after k rounds. -/
def eachV (g : Nat → Int → F) (xs : List Int) (k : Nat) : List Value := (List.range xs.length).map fun i => if i < k then .int .u64 (V (g i (nth xs i))) else .int .u64 0
theorem eachV_length (g : Nat → Int → F) (xs : List Int) (k : Nat) : (eachV g xs k).length = xs.length := by simp [eachV]
theorem eachV_zero (g : Nat → Int → F) (xs : List Int) : eachV g xs 0 = List.replicate xs.length (.int .u64 0) := by
  simp [eachV, List.map_const']
theorem eachV_all (g : Nat → Int → F) (xs : List Int) : eachV g xs xs.length = ((eachF g xs).map V).map (Value.int .u64) := by
  unfold eachV eachF
  rw [List.map_map, List.map_map]
  apply List.map_congr_left
  intro i hi
  rw [List.mem_range] at hi
  simp [hi]
theorem eachV_get (g : Nat → Int → F) (xs : List Int) (k i : Nat) (h : i < (eachV g xs k).length) : (eachV g xs k)[i] = if i < k then .int .u64 (V (g i (nth xs i))) else .int .u64 0 := by
  simp [eachV]
theorem eachV_set (g : Nat → Int → F) (xs : List Int) (k : Nat) : (eachV g xs k).set k (.int .u64 (V (g k (nth xs k)))) = eachV g xs (k + 1) := by
  apply List.ext_getElem
  · simp [eachV]
  · intro i h1 h2
    rw [List.getElem_set, eachV_get, eachV_get]
    by_cases h : k = i
    · subst h; simp
    · rw [if_neg h]
      by_cases h' : i < k
      · rw [if_pos h', if_pos (by omega)]
      · rw [if_neg h', if_neg (by omega)]

set_option maxRecDepth 100000 in
theorem each_any (kf : FuncId) (caps : Array Value) (g : Nat → Int → F) (p : Option Addr) (n : Nat) (xs : List Int) (c : Nat) (w : World) (hU : U w p n xs) (hl : n ≤ 35184372088832)
    (eg : ∀ args w, (callFunc kf args).run Try.prog w = .ok (.enter kf args) w)
    (hg : ∀ (i : Nat) (w1 : World), i < n → Below w.heap.size w w1 → Calls Try.prog kf (#[.int .i64 i, .int .u64 (nth xs i)] ++ caps) w1 fun e w' => e = .returned (.int .u64 (V (g i (nth xs i)))) ∧ Below w1.heap.size w1 w') :
    Calls Try.prog 60 #[.slice p n c, .func (.func kf) #[] caps] w fun e w' => ∃ v, e = .returned v ∧ Fs w' v (eachF g xs) ∧ Below w.heap.size w w' := by
  have hn := hU.len
  have hmk := fun W => make_row Try.prog 22 40 _ _ Try.underlying22 rfl rfl rfl rfl rfl (n : Int) (by omega) (by omega) W
  have ha0 : Arr (w.alloc (.cells (Array.replicate n (.int .u64 0)) 40)) w.heap.size 40 (eachV g xs 0) := by
    rw [eachV_zero, hn, ← List.toArray_replicate]; exact Arr.new _ _ _
  have hb0 : Below w.heap.size w (w.alloc (.cells (Array.replicate n (.int .u64 0)) 40)) := (Below.refl _ _).alloc (Nat.le_refl _) _
  have hn' := Lib.hid hn
  clear hn
  go_enter Try.func60, Try.ntmps60
  go_wp2
  go_loopw [6, 13] (fun _ i wr => ∃ k : Nat, k ≤ n ∧ i = .int .i64 k ∧ Arr wr w.heap.size 40 (eachV g xs k) ∧ Below w.heap.size w wr)
    (fun _ i _ => n - (intOf i).toNat)
  case atStart => exact ⟨0, Nat.zero_le _, rfl, ha0, hb0⟩
  case round =>
    obtain ⟨k, hk, rfl, ha, hb⟩ := hrel
    clear ha0 hb0
    by_cases hlt : k < n
    · obtain ⟨b, off, rfl, hbb, hcell, h1, h2⟩ := (hU.below hb).look hlt
      have hc := hg k wr hlt hb
      go_wp2_with fail
      refine hc.mono ?_
      rintro e w1 ⟨rfl, hb1⟩
      have ha1 : Arr w1 w.heap.size 40 (eachV g xs k) := ha.below hb1 ha.lt
      have hc1 := ha1.cell (i := k) (by rw [eachV_length, hn'.out]; exact hlt)
      have hf1 := ha1.free k
      have ha2 : Arr (w1.setCell ⟨w.heap.size, k, none⟩ (.int .u64 (V (g k (nth xs k))))) w.heap.size 40 (eachV g xs (k + 1)) := by
        have := ha1.set k (.int .u64 (V (g k (nth xs k))))
        rwa [eachV_set g xs k] at this
      have hb2 : Below w.heap.size w (w1.setCell ⟨w.heap.size, k, none⟩ (.int .u64 (V (g k (nth xs k))))) := (hb.trans (hb1.mono hb.size)).setCell (Nat.le_refl _) _
      clear hc
      go_wp2
      go_roundw
      case rel => exact ⟨k + 1, by omega, by go_num, ha2, hb2⟩
      case measure => simp [intOf]; omega
    · have hfin : Fs wr (.slice (some ⟨w.heap.size, 0, none⟩) n n) (eachF g xs) := by
        have hk' : k = n := by omega
        subst hk'
        refine ⟨some ⟨w.heap.size, 0, none⟩, k, k, rfl, Nat.le_refl _, by rw [List.length_map, eachF_length, hn'.out], ?_, ?_⟩
        · rw [← eachV_all, hn'.out]; exact ha.rd
        · intro x hx
          obtain ⟨y, _, rfl⟩ := List.mem_map.1 hx
          exact ⟨V_lo _, V_64 _⟩
      go_wp2
      go_ret
      exact ⟨_, rfl, hfin, hb⟩

set_option maxRecDepth 100000 in
theorem trim1_any (i x : Int) (w : World) (hx0 : 0 ≤ x) (hx1 : x < 18446744073709551616) :
    Calls Try.prog 61 #[.int .i64 i, .int .u64 x] w fun e w' => e = .returned (.int .u64 (V (T x))) ∧ w = w' := by
  go_enter Try.func61, Try.ntmps61
  go_wp2_with (first | (go_at_call 40; refine (num_any _ _ (by first | omega | exact V_lo _) (by first | omega | exact V_64 _)).mono ?_; rintro e w' ⟨rfl, rfl⟩) | (go_at_call 44; refine (add_any _ _ _ (by first | omega | exact V_lo _) (by first | omega | exact V_64 _) (by first | omega | exact V_lo _) (by first | omega | exact V_64 _)).mono ?_; rintro e w' ⟨rfl, rfl⟩) | (go_at_call 34; refine (sub_any _ _ _ (by first | omega | exact V_lo _) (by first | omega | exact V_64 _) (by first | omega | exact V_lo _) (by first | omega | exact V_64 _)).mono ?_; rintro e w' ⟨rfl, rfl⟩) | (go_at_call 22; refine (mul_any _ _ _ (by first | omega | exact V_lo _) (by first | omega | exact V_64 _) (by first | omega | exact V_lo _) (by first | omega | exact V_64 _)).mono ?_; rintro e w' ⟨rfl, rfl⟩) | (go_at_call 59; refine (pow_b hb _ _ (by first | omega | exact V_lo _) (by first | omega | exact V_64 _) (by omega) (by omega)).mono ?_; clear hb; rintro e w' ⟨rfl, hb⟩) | (go_at_call 46; refine (inv_b hb _ (by first | omega | exact V_lo _) (by first | omega | exact V_64 _)).mono ?_; clear hb; rintro e w' ⟨rfl, hb⟩))
  go_ret
  exact ⟨rfl, rfl⟩

set_option maxRecDepth 100000 in
theorem Trim_any (p : Option Addr) (n : Nat) (xs : List Int) (c : Nat) (w : World) (hU : U w p n xs) (hl : n ≤ 35184372088832) :
    Calls Try.prog 47 #[.slice p n c] w fun e w' => ∃ v, e = .returned v ∧ Fs w' v (trimF (xs.map T)) ∧ Below w.heap.size w w' := by
  have h1 := each_any 61 #[] (fun _ x => T x) p n xs c w hU hl (enters_of Try.func61 (by kernel_rfl) rfl)
    (fun i w1 hi _ => by
      have hx := hU.look_bd hi
      rw [show #[Value.int .i64 i, Value.int .u64 (nth xs i)] ++ #[] = #[Value.int .i64 i, Value.int .u64 (nth xs i)] from rfl]
      exact (trim1_any i (nth xs i) w1 hx.1 hx.2).mono fun _ _ ⟨he, hw⟩ => ⟨he, hw ▸ Below.refl _ _⟩)
  rw [eachF_map] at h1
  have hn := Lib.hid hU.len
  have H1 := Lib.hid h1
  clear h1
  go_enter Try.func47, Try.ntmps47
  go_wp2_with fail
  refine (H1.out).mono ?_
  rintro e w1 ⟨v, rfl, ⟨p', n', c', rfl, hc', hU'⟩, hb⟩
  have hn' : n' ≤ 35184372088832 := by have := hU'.len; rw [List.length_map, List.length_map, hn.out] at this; omega
  go_wp2_with fail
  refine (trim_any p' n' (xs.map T) c' w1 hU' hc' (by omega)).mono ?_
  rintro e w2 ⟨v, rfl, hv, rfl⟩
  go_wp2_with fail
  go_ret
  exact ⟨v, rfl, hv, hb⟩

theorem coef_T {ys : List Int} {i : Nat} (h : i < ys.length) : coef (ys.map T) i = T (nth ys i) := by
  rw [coef_lt (by simpa using h), List.getElem_map, nth_eq h]
theorem coef_each {g : Nat → Int → F} {xs : List Int} {i : Nat} (h : i < xs.length) : coef (eachF g xs) i = g i (nth xs i) := by
  rw [coef_lt (by rw [eachF_length]; exact h)]; simp [eachF]
theorem each_add (xs ys : List Int) (h : ys.length ≤ xs.length) : eachF (fun i x => if i < ys.length then T x + T (nth ys i) else T x) xs = addL (xs.map T) (ys.map T) := by
  apply ext_coef
  · rw [eachF_length, addL_length, List.length_map, List.length_map]; omega
  · intro i
    rw [coef_addL]
    by_cases hi : i < xs.length
    · rw [coef_each hi, coef_T hi]
      by_cases hj : i < ys.length
      · rw [if_pos hj, coef_T hj]
      · rw [if_neg hj, coef_ge (p := ys.map T) (by rw [List.length_map]; omega), add_zero']
    · rw [coef_ge (by rw [eachF_length]; omega), coef_ge (p := xs.map T) (by rw [List.length_map]; omega), coef_ge (p := ys.map T) (by rw [List.length_map]; omega), add_zero']

set_option maxRecDepth 100000 in
theorem add1_any (i : Nat) (x : Int) (Bb : Nat) (p : Option Addr) (n : Nat) (ys : List Int) (c : Nat) (w : World) (hU : U w p n ys) (hB : w.cell? ⟨Bb, 0, none⟩ = some (.slice p n c)) (hx0 : 0 ≤ x) (hx1 : x < 18446744073709551616) :
    Calls Try.prog 71 #[.int .i64 i, .int .u64 x, .pointer (some ⟨Bb, 0, none⟩)] w fun e w' => e = .returned (.int .u64 (V (if i < n then T x + T (nth ys i) else T x))) ∧ w = w' := by
  by_cases hi : i < n
  · rw [if_pos hi]
    obtain ⟨b, off, rfl, hb, hcell, h1, h2⟩ := hU.look hi
    go_enter Try.func71, Try.ntmps71
    go_wp2_with (first | (go_at_call 40; refine (num_any _ _ (by first | omega | exact V_lo _) (by first | omega | exact V_64 _)).mono ?_; rintro e w' ⟨rfl, rfl⟩) | (go_at_call 44; refine (add_any _ _ _ (by first | omega | exact V_lo _) (by first | omega | exact V_64 _) (by first | omega | exact V_lo _) (by first | omega | exact V_64 _)).mono ?_; rintro e w' ⟨rfl, rfl⟩) | (go_at_call 34; refine (sub_any _ _ _ (by first | omega | exact V_lo _) (by first | omega | exact V_64 _) (by first | omega | exact V_lo _) (by first | omega | exact V_64 _)).mono ?_; rintro e w' ⟨rfl, rfl⟩) | (go_at_call 22; refine (mul_any _ _ _ (by first | omega | exact V_lo _) (by first | omega | exact V_64 _) (by first | omega | exact V_lo _) (by first | omega | exact V_64 _)).mono ?_; rintro e w' ⟨rfl, rfl⟩) | (go_at_call 59; refine (pow_b hb _ _ (by first | omega | exact V_lo _) (by first | omega | exact V_64 _) (by omega) (by omega)).mono ?_; clear hb; rintro e w' ⟨rfl, hb⟩) | (go_at_call 46; refine (inv_b hb _ (by first | omega | exact V_lo _) (by first | omega | exact V_64 _)).mono ?_; clear hb; rintro e w' ⟨rfl, hb⟩))
    go_ret
    exact ⟨rfl, rfl⟩
  · rw [if_neg hi]
    go_enter Try.func71, Try.ntmps71
    go_wp2_with (first | (go_at_call 40; refine (num_any _ _ (by first | omega | exact V_lo _) (by first | omega | exact V_64 _)).mono ?_; rintro e w' ⟨rfl, rfl⟩) | (go_at_call 44; refine (add_any _ _ _ (by first | omega | exact V_lo _) (by first | omega | exact V_64 _) (by first | omega | exact V_lo _) (by first | omega | exact V_64 _)).mono ?_; rintro e w' ⟨rfl, rfl⟩) | (go_at_call 34; refine (sub_any _ _ _ (by first | omega | exact V_lo _) (by first | omega | exact V_64 _) (by first | omega | exact V_lo _) (by first | omega | exact V_64 _)).mono ?_; rintro e w' ⟨rfl, rfl⟩) | (go_at_call 22; refine (mul_any _ _ _ (by first | omega | exact V_lo _) (by first | omega | exact V_64 _) (by first | omega | exact V_lo _) (by first | omega | exact V_64 _)).mono ?_; rintro e w' ⟨rfl, rfl⟩) | (go_at_call 59; refine (pow_b hb _ _ (by first | omega | exact V_lo _) (by first | omega | exact V_64 _) (by omega) (by omega)).mono ?_; clear hb; rintro e w' ⟨rfl, hb⟩) | (go_at_call 46; refine (inv_b hb _ (by first | omega | exact V_lo _) (by first | omega | exact V_64 _)).mono ?_; clear hb; rintro e w' ⟨rfl, hb⟩))
    go_ret
    exact ⟨rfl, rfl⟩

/-- The longer one, the shorter one captured. -/
theorem add_each (p q : Option Addr) (n m : Nat) (xs ys : List Int) (c d : Nat) (w : World) (hX : U w p n xs) (hY : U w q m ys) (hn : n ≤ 35184372088832) (hlt : m ≤ n) :
    Calls Try.prog 60 #[.slice p n c, .func (.func 71) #[] #[.pointer (some ⟨w.heap.size, 0, none⟩)]] (w.alloc (.cells #[.slice q m d] 22)) fun e w' =>
      ∃ v, e = .returned v ∧ Fs w' v (addL (xs.map T) (ys.map T)) ∧ Below w.heap.size w w' := by
  have hb0 : Below w.heap.size w (w.alloc (.cells #[.slice q m d] 22)) := (Below.refl _ _).alloc (Nat.le_refl _) _
  have hX1 := hX.below hb0
  have hY1 := hY.below hb0
  have hc1 : (w.alloc (.cells #[.slice q m d] 22)).cell? ⟨w.heap.size, 0, none⟩ = some (.slice q m d) := (Arr.new w 22 [.slice q m d]).cell (by simp)
  refine (each_any 71 #[.pointer (some ⟨w.heap.size, 0, none⟩)] (fun i x => if i < ys.length then T x + T (nth ys i) else T x) p n xs c _ hX1 hn (enters_of Try.func71 (by kernel_rfl) rfl)
    (fun i w1 hi hb => by
      have hx := hX1.look_bd hi
      rw [show #[Value.int .i64 i, Value.int .u64 (nth xs i)] ++ #[Value.pointer (some ⟨w.heap.size, 0, none⟩)] = #[Value.int .i64 i, Value.int .u64 (nth xs i), Value.pointer (some ⟨w.heap.size, 0, none⟩)] from rfl]
      have h := add1_any i (nth xs i) w.heap.size q m ys d w1 (hY1.below hb) ((hb.cell (p := ⟨w.heap.size, 0, none⟩) (by simp)).trans hc1) hx.1 hx.2
      rw [hY.len]
      exact h.mono fun _ _ ⟨he, hw⟩ => ⟨he, hw ▸ Below.refl _ _⟩)).mono ?_
  rintro e w' ⟨v, rfl, hv, hb⟩
  rw [each_add xs ys (by rw [hX.len, hY.len]; exact hlt)] at hv
  exact ⟨v, rfl, hv, hb0.trans (hb.mono (by simp))⟩

set_option maxRecDepth 100000 in
theorem Add_any (p q : Option Addr) (n m : Nat) (xs ys : List Int) (c d : Nat) (w : World) (hX : U w p n xs) (hY : U w q m ys) (hn : n ≤ 35184372088832) (hm : m ≤ 35184372088832) :
    Calls Try.prog 63 #[.slice p n c, .slice q m d] w fun e w' => ∃ v, e = .returned v ∧ Fs w' v (trimF (addL (xs.map T) (ys.map T))) ∧ Below w.heap.size w w' := by
  have hX' := Lib.hid hX.len
  have hY' := Lib.hid hY.len
  by_cases hlt : n < m
  · have H1 := Lib.hid (add_each q p m n ys xs d c w hY hX hm (by omega))
    have hcm := Lib.hid (addL_comm (ys.map T) (xs.map T))
    go_enter Try.func63, Try.ntmps63
    go_wp2_with fail
    refine (H1.out).mono ?_
    rintro e w1 ⟨v, rfl, ⟨p', n', c', rfl, hc', hU'⟩, hb⟩
    have hn' : n' ≤ 35184372088832 := by have := hU'.len; rw [List.length_map, addL_length, List.length_map, List.length_map, hX'.out, hY'.out] at this; omega
    go_wp2_with fail
    refine (trim_any p' n' _ c' w1 hU' hc' (by omega)).mono ?_
    rintro e w2 ⟨v, rfl, hv, rfl⟩
    rw [hcm.out] at hv
    go_wp2_with fail
    go_ret
    exact ⟨v, rfl, hv, hb⟩
  · have H1 := Lib.hid (add_each p q n m xs ys c d w hX hY hn (by omega))
    go_enter Try.func63, Try.ntmps63
    go_wp2_with fail
    refine (H1.out).mono ?_
    rintro e w1 ⟨v, rfl, ⟨p', n', c', rfl, hc', hU'⟩, hb⟩
    have hn' : n' ≤ 35184372088832 := by have := hU'.len; rw [List.length_map, addL_length, List.length_map, List.length_map, hX'.out, hY'.out] at this; omega
    go_wp2_with fail
    refine (trim_any p' n' _ c' w1 hU' hc' (by omega)).mono ?_
    rintro e w2 ⟨v, rfl, hv, rfl⟩
    go_wp2_with fail
    go_ret
    exact ⟨v, rfl, hv, hb⟩
end Go.Proofs.Ytelnhpcehmdffaa
