/-
  The contracts of the program's polynomials (5): what is trimmed, where it lies; quotients.
-/
import Derived.Test.YtelnhpcehmdffaaPolyB
import Derived.Test.YtelnhpcehmdffaaPolyD
import Derived.Test.YtelnhpcehmdffaaGa
namespace Go.Proofs.Ytelnhpcehmdffaa
open Go.RowKit
attribute [local go_sem] T_V

theorem ret_slice {p : Option Addr} {a b c : Nat} (h : a = b) : Ending.returned (.slice p a c) = .returned (.slice p b c) := by rw [h]
set_option maxRecDepth 100000 in
theorem trim_at (p : Option Addr) (n : Nat) (fs : List F) (c : Nat) (w : World) (hU : U w p n (fs.map V)) (hc : n ≤ c) (hl : n ≤ 9223372036854775807) :
    Calls Try.prog 49 #[.slice p n c] w fun e w' => e = .returned (.slice p (trimF fs).length c) ∧ w = w' := by
  have hn : fs.length = n := by simpa using hU.len
  go_enter Try.func49, Try.ntmps49
  go_wp2
  go_loop [0] (fun a => ∃ k : Nat, k ≤ n ∧ a = .slice p k c ∧ Hid (trimF (fs.take k) = trimF fs)) (fun a => match a with | .slice _ k _ => k | _ => 0)
  case atStart => exact ⟨n, Nat.le_refl _, rfl, Lib.hid (by rw [List.take_of_length_le (by omega)])⟩
  case round =>
    obtain ⟨k, hk, rfl, ht⟩ := hrel
    by_cases h0 : 0 < k
    · obtain ⟨b, off, rfl, hb, hcell, _, _⟩ := hU.look (i := k - 1) (by omega)
      rw [nth_V (by omega)] at hcell
      by_cases hz : fs[k - 1]'(by omega) = 0
      · have hz' : (V (fs[k - 1]'(by omega)) == 0) = true := by rw [V_inj_zero, beq_iff_eq]; exact hz
        have ht' : Hid (trimF (fs.take (k - 1)) = trimF fs) := Lib.hid (by
          have := trimF_take fs (k - 1) (by omega) hz
          rw [show k - 1 + 1 = k by omega] at this
          rw [← this]; exact ht.out)
        clear hz ht
        go_wp2
        go_round
        case rel => exact ⟨k - 1, by omega, rfl, ht'⟩
        case measure => show k - 1 < k; omega
      · have hz' : (V (fs[k - 1]'(by omega)) == 0) = false := by rw [V_inj_zero, beq_eq_false_iff_ne]; exact hz
        have ht' : Hid (k = (trimF fs).length) := Lib.hid (by
          have := trimF_take_ne fs (k - 1) (by omega) hz
          rw [show k - 1 + 1 = k by omega] at this
          rw [← ht.out, this, List.length_take]; omega)
        clear hz ht
        go_wp2
        go_ret
        exact ⟨ret_slice ht'.out, rfl⟩
    · obtain rfl : k = 0 := by omega
      have ht' : Hid (0 = (trimF fs).length) := Lib.hid (by rw [← ht.out]; rfl)
      clear ht
      go_wp2
      go_ret
      exact ⟨ret_slice ht'.out, rfl⟩

theorem arr_eachV (g : Nat → Int → F) (xs : List Int) : eachV g xs xs.length = arrF xs.length (coef (eachF g xs)) := by
  rw [eachV_all]
  unfold arrF
  apply List.ext_getElem
  · simp [eachF]
  · intro i h1 h2
    have hi : i < (eachF g xs).length := by simpa using h1
    simp [coef_lt hi]

set_option maxRecDepth 100000 in
theorem each_own (kf : FuncId) (caps : Array Value) (g : Nat → Int → F) (p : Option Addr) (n : Nat) (xs : List Int) (c : Nat) (w : World) (hU : U w p n xs) (hl : n ≤ 35184372088832)
    (eg : ∀ args w, (callFunc kf args).run Try.prog w = .ok (.enter kf args) w)
    (hg : ∀ (i : Nat) (w1 : World), i < n → Below w.heap.size w w1 → Calls Try.prog kf (#[.int .i64 i, .int .u64 (nth xs i)] ++ caps) w1 fun e w' => e = .returned (.int .u64 (V (g i (nth xs i)))) ∧ Below w1.heap.size w1 w') :
    Calls Try.prog 60 #[.slice p n c, .func (.func kf) #[] caps] w fun e w' => e = .returned (.slice (some ⟨w.heap.size, 0, none⟩) n n) ∧ Arr w' w.heap.size 40 (arrF n (coef (eachF g xs))) ∧ Below w.heap.size w w' := by
  have hn := hU.len
  have hmk := fun W => make_row Try.prog 22 40 _ _ Try.underlying22 rfl rfl rfl rfl rfl (n : Int) (by omega) (by omega) W
  have ha0 : Arr (w.alloc (.cells (Array.replicate n (.int .u64 0)) 40)) w.heap.size 40 (eachV g xs 0) := by
    rw [eachV_zero, hn, ← List.toArray_replicate]; exact Arr.new _ _ _
  have hb0 : Below w.heap.size w (w.alloc (.cells (Array.replicate n (.int .u64 0)) 40)) := (Below.refl _ _).alloc (Nat.le_refl _) _
  have hn' := Lib.hid hn
  clear hn
  go_enter Try.func60, Try.ntmps60
  go_wp2
  go_loopw [6, 13] (fun _ i wr => ∃ k : Nat, k ≤ n ∧ i = .int .i64 k ∧ Arr wr w.heap.size 40 (eachV g xs k) ∧ Below w.heap.size w wr)
    (fun _ i _ => n - (intOf i).toNat)
  case atStart => exact ⟨0, Nat.zero_le _, rfl, ha0, hb0⟩
  case round =>
    obtain ⟨k, hk, rfl, ha, hb⟩ := hrel
    clear ha0 hb0
    by_cases hlt : k < n
    · obtain ⟨b, off, rfl, hbb, hcell, h1, h2⟩ := (hU.below hb).look hlt
      have hc := hg k wr hlt hb
      go_wp2_with fail
      refine hc.mono ?_
      rintro e w1 ⟨rfl, hb1⟩
      have ha1 : Arr w1 w.heap.size 40 (eachV g xs k) := ha.below hb1 ha.lt
      have hc1 := ha1.cell (i := k) (by rw [eachV_length, hn'.out]; exact hlt)
      have hf1 := ha1.free k
      have ha2 : Arr (w1.setCell ⟨w.heap.size, k, none⟩ (.int .u64 (V (g k (nth xs k))))) w.heap.size 40 (eachV g xs (k + 1)) := by
        have := ha1.set k (.int .u64 (V (g k (nth xs k))))
        rwa [eachV_set g xs k] at this
      have hb2 : Below w.heap.size w (w1.setCell ⟨w.heap.size, k, none⟩ (.int .u64 (V (g k (nth xs k))))) := (hb.trans (hb1.mono hb.size)).setCell (Nat.le_refl _) _
      clear hc
      go_wp2
      go_roundw
      case rel => exact ⟨k + 1, by omega, by go_num, ha2, hb2⟩
      case measure => simp [intOf]; omega
    · have hfin : Arr wr w.heap.size 40 (arrF n (coef (eachF g xs))) := by
        have hk' : k = n := by omega
        subst hk'
        have := arr_eachV g xs
        rw [hn'.out] at this
        rw [← this]; exact ha
      go_wp2
      go_ret
      exact ⟨rfl, hfin, hb⟩

set_option maxRecDepth 100000 in
theorem Trim_own (p : Option Addr) (n : Nat) (xs : List Int) (c : Nat) (w : World) (hU : U w p n xs) (hl : n ≤ 35184372088832) :
    Calls Try.prog 47 #[.slice p n c] w fun e w' => e = .returned (.slice (some ⟨w.heap.size, 0, none⟩) (trimF (xs.map T)).length n) ∧ Arr w' w.heap.size 40 (arrF n (coef (xs.map T))) ∧ Below w.heap.size w w' := by
  have h1 := each_own 61 #[] (fun _ x => T x) p n xs c w hU hl (enters_of Try.func61 (by kernel_rfl) rfl)
    (fun i w1 hi _ => by
      have hx := hU.look_bd hi
      rw [show #[Value.int .i64 i, Value.int .u64 (nth xs i)] ++ #[] = #[Value.int .i64 i, Value.int .u64 (nth xs i)] from rfl]
      exact (trim1_any i (nth xs i) w1 hx.1 hx.2).mono fun _ _ ⟨he, hw⟩ => ⟨he, hw ▸ Below.refl _ _⟩)
  rw [eachF_map] at h1
  have hn := Lib.hid hU.len
  have H1 := Lib.hid h1
  clear h1
  go_enter Try.func47, Try.ntmps47
  go_wp2_with fail
  refine (H1.out).mono ?_
  rintro e w1 ⟨rfl, ha, hb⟩
  have hU' : U w1 (some ⟨w.heap.size, 0, none⟩) n ((xs.map T).map V) := by
    have := ha.fs
    have e : (List.range n).map (coef (xs.map T)) = xs.map T := by
      apply ext_coef
      · simp [hn.out]
      · intro i
        rw [coef_range]
        by_cases hi : i < n
        · rw [if_pos hi]
        · rw [if_neg hi, coef_ge (by rw [List.length_map, hn.out]; omega)]
    rwa [e] at this
  go_wp2_with fail
  refine (trim_at _ n (xs.map T) n w1 hU' (Nat.le_refl _) (by omega)).mono ?_
  rintro e w2 ⟨rfl, rfl⟩
  go_wp2_with fail
  go_ret
  exact ⟨rfl, ha, hb⟩
end Go.Proofs.Ytelnhpcehmdffaa
