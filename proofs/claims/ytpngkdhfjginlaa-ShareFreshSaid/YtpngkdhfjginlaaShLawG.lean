/-
  The walks of the statements on shares (7): shares of two secrets, added one by one.
-/
import Derived.Test.YtpngkdhfjginlaaShLawE
import Derived.Test.YtpngkdhfjginlaaShLawB
import Derived.Test.YtpngkdhfjginlaaShLawF
namespace Go.Proofs.Ytpngkdhfjginlaa
open Go.RowKit
attribute [local go_sem] T_V

theorem add_split (A B : List F) {k : Nat} (h : k < 9) : addS (sh (splitL A 9) k) (sh (splitL B 9) k) = sh (splitL (addL A B) 9) k ∧ addE (sh (splitL A 9) k) (sh (splitL B 9) k) = 0 := by
  rw [sh_split A h, sh_split B h, sh_split (addL A B) h]
  refine ⟨?_, ?_⟩
  · show (if T ((k : Int) + 1) = T ((k : Int) + 1) then (V (T ((k : Int) + 1)), V (T (V (ev A (pt k))) + T (V (ev B (pt k))))) else (0, 0)) = _
    rw [if_pos rfl, T_V, T_V, ev_addL]
    have := pt_V k h
    unfold pt at this
    rw [this]
  · show (if T ((k : Int) + 1) = T ((k : Int) + 1) then (0 : Int) else 29) = 0
    rw [if_pos rfl]
theorem split_step (P : List F) {k : Nat} (h : k < 9) : splitL P (k + 1) = splitL P k ++ [((sh (splitL P 9) k).1, (sh (splitL P 9) k).2)] := by
  rw [splitL_snoc, sh_split P h]; rfl
theorem bd_split (P : List F) {k : Nat} (h : k < 9) : bdS (sh (splitL P 9) k) := by
  rw [sh_split P h]
  exact ⟨⟨by simp only; omega, by simp only; omega⟩, V_lo _, V_64 _⟩

/-- One old share beside n new ones: the places. -/
def oldK (n : Nat) : List Nat := List.range (n + 1)
theorem oldK_ok {n : Nat} (h : n ≤ 4) : (oldK n).Nodup ∧ (∀ k ∈ oldK n, k < 9) ∧ (oldK n).length = n + 1 :=
  ⟨List.nodup_range, fun k hk => by have := List.mem_range.1 hk; omega, List.length_range⟩
/-- .. and the shares. -/
def mixL (A B : List F) (n : Nat) : List (Int × Int) := [sh (splitL A 9) 0] ++ ((splitL B 9).take (n + 1)).drop 1
theorem mixL_length (A B : List F) {n : Nat} (h : n ≤ 4) : (mixL A B n).length = n + 1 := by
  simp [mixL, splitL_length]; omega
theorem mixL_get (A B : List F) {n i : Nat} (h : n ≤ 4) (hi : i < n + 1) : (mixL A B n)[i]? = some (if i = 0 then sh (splitL A 9) 0 else sh (splitL B 9) i) := by
  unfold mixL
  cases i with
  | zero => simp
  | succ i =>
    rw [List.singleton_append, List.getElem?_cons_succ, List.getElem?_drop, List.getElem?_take]
    rw [if_pos (by omega), if_neg (by omega), show 1 + i = i + 1 by omega, sh_eq (by rw [splitL_length]; omega)]
    rw [List.getElem?_eq_getElem (by rw [splitL_length]; omega)]
theorem mix_plc (A B : List F) {n : Nat} (h : n ≤ 4) : plc (mixL A B n) = (oldK n).map pt := by
  apply List.ext_getElem?
  intro i
  unfold plc
  rw [List.getElem?_map, List.getElem?_map]
  by_cases hi : i < n + 1
  · rw [mixL_get A B h hi]
    have : (oldK n)[i]? = some i := by unfold oldK; rw [List.getElem?_range hi]
    rw [this]
    simp only [Option.map_some]
    split
    · rename_i h0; subst h0; rw [sh_split A (by omega)]; rfl
    · rw [sh_split B (by omega)]; rfl
  · rw [List.getElem?_eq_none (by rw [mixL_length A B h]; omega), List.getElem?_eq_none (by rw [(oldK_ok h).2.2]; omega)]; rfl
theorem mix_vals (A B : List F) {n : Nat} (h : n ≤ 4) : (vals (mixL A B n)).map T = (oldK n).map fun k => if k = 0 then ev A (pt 0) else ev B (pt k) := by
  apply List.ext_getElem?
  intro i
  unfold vals
  rw [List.map_map, List.getElem?_map, List.getElem?_map]
  by_cases hi : i < n + 1
  · rw [mixL_get A B h hi]
    have : (oldK n)[i]? = some i := by unfold oldK; rw [List.getElem?_range hi]
    rw [this]
    simp only [Option.map_some, Function.comp]
    split
    · rw [sh_split A (by omega), T_V]
    · rw [sh_split B (by omega), T_V]
  · rw [List.getElem?_eq_none (by rw [mixL_length A B h]; omega), List.getElem?_eq_none (by rw [(oldK_ok h).2.2]; omega)]; rfl
theorem mix_apart (A B : List F) {n : Nat} (h : n ≤ 4) : apartB (mixL A B n) = true := by
  obtain ⟨h1, h2, _⟩ := oldK_ok h
  unfold apartB
  rw [decide_eq_true_eq, mix_plc A B h, List.nodup_cons]
  exact ⟨zero_not_pt h2, nodup_pt h1 h2⟩
/-- They tell the secret just if the change is 0 there. -/
theorem mix_tells {A Z fs : List F} {n : Nat} (h : n ≤ 4) (hl : (addL A Z).length ≤ n + 1) (hz : ev Z 0 = 0) (hf : FromOk (plc (mixL A (addL A Z) n)) ((vals (mixL A (addL A Z) n)).map T) fs) : ev fs 0 = ev A 0 ↔ ev Z (pt 0) = 0 := by
  obtain ⟨h1, h2, h3⟩ := oldK_ok h
  rw [mix_plc _ _ h, mix_vals _ _ h] at hf
  have hn := nodup_pt h1 h2
  have hlen : fs.length ≤ n + 1 := by have := hf.len hn; rwa [List.length_map, h3] at this
  have hat : ∀ k, k < n + 1 → ev fs (pt k) = if k = 0 then ev A (pt 0) else ev (addL A Z) (pt k) := by
    intro k hk
    have := hf.val hn k (by rw [List.length_map, h3]; exact hk)
    rw [coef_lt (by rw [List.length_map, h3]; exact hk), coef_lt (by rw [List.length_map, h3]; exact hk), List.getElem_map, List.getElem_map] at this
    simpa [oldK] using this
  have h0 := hat 0 (by omega)
  rw [if_pos rfl] at h0
  constructor
  · intro he
    have e : trimF fs = trimF (addL A Z) := same_of_values fs _ (0 :: ((oldK n).drop 1).map pt) (by simp [h3]; omega) (by simp [h3]; omega)
      (List.nodup_cons.2 ⟨zero_not_pt fun k hk => h2 k (List.mem_of_mem_drop hk), nodup_pt (h1.sublist (List.drop_sublist _ _)) fun k hk => h2 k (List.mem_of_mem_drop hk)⟩) fun x hx => by
        rcases List.mem_cons.1 hx with rfl | hx
        · rw [he, ev_addL, hz, add_zero']
        · obtain ⟨k, hk, rfl⟩ := List.mem_map.1 hx
          obtain ⟨i, hi, rfl⟩ := List.getElem_of_mem hk
          rw [List.length_drop, h3] at hi
          have e1 : ((oldK n).drop 1)[i]'(by rw [List.length_drop, h3]; exact hi) = 1 + i := by simp [oldK]
          rw [e1, hat (1 + i) (by omega), if_neg (by omega)]
    have h4 : ev fs (pt 0) = ev (addL A Z) (pt 0) := by rw [← ev_trimF fs, e, ev_trimF]
    rw [h0, ev_addL] at h4
    grind
  · intro he
    have e : trimF fs = trimF (addL A Z) := same_of_values fs _ ((oldK n).map pt) (by rw [List.length_map, h3]; exact hlen) (by rw [List.length_map, h3]; exact hl) hn fun x hx => by
        obtain ⟨k, hk, rfl⟩ := List.mem_map.1 hx
        have hk' := List.mem_range.1 hk
        rw [hat k hk']
        split
        · rename_i hk0; subst hk0; rw [ev_addL, he, add_zero']
        · rfl
    rw [← ev_trimF fs, e, ev_trimF, ev_addL, hz, add_zero']
end Go.Proofs.Ytpngkdhfjginlaa
