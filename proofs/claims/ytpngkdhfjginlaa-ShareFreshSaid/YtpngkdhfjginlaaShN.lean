/-
  Shares (14): what the shares of a polynomial tell.
-/
import Derived.Test.YtpngkdhfjginlaaShM
namespace Go.Proofs.Ytpngkdhfjginlaa
open Go.RowKit
attribute [local go_sem] T_V

/-- The place of the k-th share. -/
def pt (k : Nat) : F := T ((k : Int) + 1)
theorem pt_V (k : Nat) (h : k < 9) : V (pt k) = (k : Int) + 1 := T_small _ (by omega) (by omega)
theorem pt_inj {j k : Nat} (hj : j < 9) (hk : k < 9) (h : pt j = pt k) : j = k := by
  have := pt_V j hj
  rw [h, pt_V k hk] at this
  omega
theorem pt_ne (k : Nat) (h : k < 9) : pt k ≠ 0 := by
  intro e
  have := pt_V k h
  rw [e, V_zero] at this
  omega
theorem sh_split (P : List F) {n k : Nat} (h : k < n) : sh (splitL P n) k = ((k : Int) + 1, V (ev P (pt k))) := by
  rw [sh_eq (by rw [splitL_length]; exact h)]
  simp [splitL, pt]
theorem plc_takes (P : List F) (K : List Nat) (h : ∀ k ∈ K, k < 9) : plc (takes (splitL P 9) K) = K.map pt := by
  unfold plc takes
  rw [List.map_map]
  apply List.map_congr_left
  intro k hk
  show T (sh (splitL P 9) k).1 = pt k
  rw [sh_split P (h k hk)]
  rfl
theorem vals_takes (P : List F) (K : List Nat) (h : ∀ k ∈ K, k < 9) : (vals (takes (splitL P 9) K)).map T = K.map fun k => ev P (pt k) := by
  unfold vals takes
  rw [List.map_map, List.map_map]
  apply List.map_congr_left
  intro k hk
  show T (sh (splitL P 9) k).2 = ev P (pt k)
  rw [sh_split P (h k hk)]
  exact T_V _
theorem nodup_pt {K : List Nat} (hd : K.Nodup) (h : ∀ k ∈ K, k < 9) : (K.map pt).Nodup := by
  induction K with
  | nil => simp
  | cons a K ih =>
    obtain ⟨h1, h2⟩ := List.nodup_cons.1 hd
    rw [List.map_cons, List.nodup_cons]
    refine ⟨fun hm => ?_, ih h2 fun k hk => h k (List.mem_cons_of_mem _ hk)⟩
    obtain ⟨b, hb, he⟩ := List.mem_map.1 hm
    have := pt_inj (h b (List.mem_cons_of_mem _ hb)) (h a (List.mem_cons_self ..)) he
    exact h1 (this ▸ hb)
theorem zero_not_pt {K : List Nat} (h : ∀ k ∈ K, k < 9) : (0 : F) ∉ K.map pt := by
  intro hm
  obtain ⟨b, hb, he⟩ := List.mem_map.1 hm
  exact pt_ne b (h b hb) he
theorem apart_takes (P : List F) {K : List Nat} (hd : K.Nodup) (h : ∀ k ∈ K, k < 9) : apartB (takes (splitL P 9) K) = true := by
  unfold apartB
  rw [decide_eq_true_eq, plc_takes P K h, List.nodup_cons]
  exact ⟨zero_not_pt h, nodup_pt hd h⟩
/-- As many values as there are coefficients, or more, lead back. -/
theorem from_enough {P fs : List F} {K : List Nat} (hd : K.Nodup) (h : ∀ k ∈ K, k < 9) (hl : P.length ≤ K.length) (hf : FromOk (plc (takes (splitL P 9) K)) ((vals (takes (splitL P 9) K)).map T) fs) (z : F) : ev fs z = ev P z := by
  rw [plc_takes P K h, vals_takes P K h] at hf
  have hn := nodup_pt hd h
  have e : trimF fs = trimF P := same_of_values fs P (K.map pt) (hf.len hn) (by rw [List.length_map]; exact hl) hn fun x hx => by
    obtain ⟨i, hi, rfl⟩ := List.getElem_of_mem hx
    have hi' : i < K.length := by simpa using hi
    rw [← coef_lt hi, hf.val hn i hi, coef_lt hi, coef_lt (by simpa using hi'), List.getElem_map, List.getElem_map]
  rw [← ev_trimF fs, e, ev_trimF]

theorem At_is (p : Option Addr) (n : Nat) (l : List (Int × Int)) (c : Nat) (x : Int) (w : World) (G : F) (hG : ∀ fs, FromOk (plc l) ((vals l).map T) fs → ev fs (T x) = G) (hL : Sh w p n l) (hn : n ≤ 1000000) (hn0 : 0 < n) (hap : apartB l = true) (hx0 : 0 ≤ x) (hx1 : x < 18446744073709551616) :
    Calls Try.prog 16 #[.slice p n c, .int .u64 x] w fun e w' => e = .returned (.tuple #[.int .u64 (V G), .int .i64 0]) ∧ Below w.heap.size w w' := by
  refine (At_ok p n l c x w hL hn hn0 hap hx0 hx1).mono ?_
  rintro e w' ⟨fs, rfl, hok, hb⟩
  rw [hG fs hok]
  exact ⟨rfl, hb⟩
theorem Join_is (p : Option Addr) (n : Nat) (l : List (Int × Int)) (c : Nat) (w : World) (G : F) (hG : ∀ fs, FromOk (plc l) ((vals l).map T) fs → ev fs 0 = G) (hL : Sh w p n l) (hn : n ≤ 1000000) (hn0 : 0 < n) (hap : apartB l = true) :
    Calls Try.prog 18 #[.slice p n c] w fun e w' => e = .returned (.tuple #[.int .u64 (V G), .int .i64 0]) ∧ Below w.heap.size w w' := by
  refine (Join_ok p n l c w hL hn hn0 hap).mono ?_
  rintro e w' ⟨fs, rfl, hok, hb⟩
  rw [hG fs hok]
  exact ⟨rfl, hb⟩
/-- Some of a polynomial's nine shares. -/
def Somes (w' : World) (base : Nat) (P : List F) (most : Nat) (v : Value) : Prop := ∃ K : List Nat, K.Nodup ∧ (∀ k ∈ K, k < 9) ∧ K.length = min most 9 ∧ OwnS w' base v K.length (takes (splitL P 9) K)
theorem Some_split (most : Nat) (mostI : Int) (hk : mostI = most) (P : List F) (p : Option Addr) (c : Nat) (q : Option Addr) (m : Nat) (xs : List Int) (d : Nat) (w : World) (hL : Sh w p 9 (splitL P 9)) (hI : UI w q m xs) (hm : m ≤ 9223372036854775807) (hmost : most ≤ 1000000) :
    Calls Try.prog 19 #[.slice p 9 c, .slice q m d, .int .i64 mostI] w fun e w' => ∃ v, e = .returned v ∧ Somes w' w.heap.size P most v ∧ Below w.heap.size w w' := by
  rw [hk]
  refine (Some_any p 9 _ c q m xs d most w hL hI (by omega) (by omega) hm hmost).mono ?_
  rintro e w' ⟨v, rfl, hO, hb⟩
  obtain ⟨h1, h2, h3⟩ := somes_ok 9 most xs
  exact ⟨v, rfl, ⟨_, h1, h2, h3, hO⟩, hb⟩
theorem ev_zero (a : F) (P : List F) : ev (a :: P) 0 = a := by rw [ev, zero_mul', add_zero']
end Go.Proofs.Ytpngkdhfjginlaa
