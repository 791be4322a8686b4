/-
  Bytes that are cut, written over, and the first few.
-/
import Derived.Test.YtcnhgkgabddjmaaChU
namespace Go.Proofs.Ytcnhgkgabddjmaa
open Go.RowKit Go.Maps

theorem sliceB_to (p : Option Addr) (n c k : Nat) (hk : k ≤ c) (W : World) : (Instr.slice 37 (.slice p n c) none (some (.int .i64 (k : Int))) none).run Try.prog W = .ok (.slice p k c) W := by
  have hs : (sizeOf (Try.prog.elem 37)).run Try.prog W = .ok 1 W := by kernel_rfl
  rw [run_slice_h W 37 p n c (by kernel_rfl) .i64 (k : Int) (by omega) (by omega), hs]
  have e : (p.map fun x => x.add 0) = p := by cases p <;> rfl
  show Result.ok (Value.slice (if c = 0 then p else p.map fun x => x.add (0 * 1)) ((k : Int).toNat - 0) (c - 0)) W = _
  rw [Nat.zero_mul, e]
  simp
theorem B8.take {w : World} {p : Option Addr} {n : Nat} {bs : List Int} (h : B8 w p n bs) (k : Nat) (hk : k ≤ n) : B8 w p k (bs.take k) := by
  refine ⟨by rw [List.length_take, h.len]; omega, ?_, fun x hx => h.bd x (List.mem_of_mem_take hx)⟩
  rcases h.rd with h1 | ⟨b, off, he, hc⟩
  · refine .inl ?_
    rw [List.map_eq_nil_iff] at h1 ⊢
    rw [h1, List.take_nil]
  · refine .inr ⟨b, off, he, fun i hi => ?_⟩
    rw [List.length_map, List.length_take] at hi
    have := hc i (by rw [List.length_map]; omega)
    rw [this]
    simp
theorem OwnB.set {w : World} {base n c q : Nat} {p : Option Addr} {bs : List Int} (h : OwnB w base (.slice p n c) n bs) (hq : q < n) {y : Int} (hy : 0 ≤ y ∧ y < 256) :
    ∃ g v, p = some ⟨g, 0, none⟩ ∧ base ≤ g ∧ g < w.heap.size ∧ w.cell? ⟨g, q, none⟩ = some v ∧ w.frozen? ⟨g, q, none⟩ = false ∧ B8 (w.setCell ⟨g, q, none⟩ (.int .u8 y)) p n (bs.set q y) ∧ Below base w (w.setCell ⟨g, q, none⟩ (.int .u8 y)) := by
  rcases h.row.2 with ⟨hv, hn⟩ | ⟨g, cap, cur, hv, hg, hgb, hnc, hcm, hcs, htake⟩
  · injection hv with _ h0; omega
  · injection hv with h1 h2 h3
    subst h1; subst h3
    have hqs : q < cur.size := by omega
    have hlt := (Array.getElem?_eq_some_iff.1 hgb).1
    refine ⟨g, cur[q], rfl, hg, hlt, by simp [World.cell?, hgb, hqs], by simp [World.frozen?, hgb], ⟨by rw [List.length_set, h.len], ?_, ?_⟩, ?_⟩
    · refine .inr ⟨g, 0, rfl, fun i hi => ?_⟩
      rw [List.length_map, List.length_set] at hi
      have hcell : (w.setCell ⟨g, q, none⟩ (.int .u8 y)).heap[g]? = some (.cells (cur.set! q (.int .u8 y)) 5 (0, 0)) := by
        show (w.heap.modify g _)[g]? = _
        rw [Array.getElem?_modify, if_pos rfl, hgb]; rfl
      have hin : i < n := by rw [← h.len]; exact hi
      have hold : cur[i]? = some (.int .u8 (bs[i])) := by
        have h5 : (cur.toList.take (n * 1))[i]? = some ((bs.map (Value.int .u8))[i]'(by rw [List.length_map]; exact hi)) := by
          rw [htake]; exact List.getElem?_eq_getElem _
        rw [List.getElem?_take] at h5
        split at h5
        · rw [List.getElem_map] at h5
          simpa using h5
        · cases h5
      simp only [World.cell?, hcell, Nat.zero_add, List.getElem_map]
      by_cases e : i = q
      · subst e
        simp [hqs]
      · rw [List.getElem_set_ne (by omega)]
        simp [Array.getElem?_setIfInBounds, Ne.symm e, hold]
    · intro x hx
      rcases List.mem_or_eq_of_mem_set hx with hx | hx
      · exact h.bd x hx
      · subst hx; exact hy
    · exact (Below.refl _ _).grown (grown_cell w g q (.int .u8 y)) (by omega) (fun k e => by injection e with e; omega)
theorem putB_len3 (m : Ch) : 3 ≤ (putB m).length := by
  have h : ∀ n, 1 ≤ (sevens n).length := fun n => by
    by_cases h : n < 128
    · rw [sevens_last h]; simp
    · rw [sevens_more (by omega)]; simp
  have h1 := h (2 * m.num)
  have h2 := h m.st.toNat
  have h3 := h (2 * m.ks.length)
  unfold putB
  simp only [List.length_append]
  omega
set_option maxRecDepth 100000 in
theorem Few_any (p : Option Addr) (n c : Nat) (bs : List Int) (w : World) (hB : B8 w p n bs) (hnc : n ≤ c) (hp : p = none → c = 0) (hn : n ≤ 9223372036854775807) :
    Calls Try.prog 31 #[.slice p n c, .int .i64 30] w fun e w' => ∃ (q : Option Addr) (k cq : Nat), e = .returned (.slice q k cq) ∧ B8 w' q k (bs.take 30) ∧ k ≤ 30 ∧ (q = none → cq = 0) ∧ FarP w.heap.size q ∧ Below w.heap.size w w' := by
  obtain ⟨k, hk, hk30, hkn⟩ : ∃ k : Nat, min (n : Int) 30 = k ∧ k ≤ 30 ∧ k ≤ n ∧ (k = 30 ∨ k = n) := ⟨(min (n : Int) 30).toNat, by omega, by omega, by omega, by omega⟩
  obtain ⟨hkn, hk3⟩ := hkn
  have hT := hB.take k hkn
  have hT30 : bs.take k = bs.take 30 := by
    rcases hk3 with rfl | rfl
    · rfl
    · rw [List.take_of_length_le (by rw [hB.len]; exact Nat.le_refl _), List.take_of_length_le (by rw [hB.len]; omega)]
  rw [hT30] at hT
  have hs := sliceB_to p n c k (by omega) w
  clear hT30
  replace hk3 := Lib.hid hk3
  go_enter Try.func31, Try.ntmps31
  go_wp2_with (at_builtin; refine app_bs rfl _ _ rfl (OwnB.nil w w.heap.size) rfl rfl hT hp (by omega) (Nat.le_refl _) ?_; intro v' w1 hown1 hb1; rw [Nat.zero_add, List.nil_append] at hown1; obtain ⟨p1, c1, rfl, hc1, hB1, hf1, hp1⟩ := hown1.u)
  go_ret
  exact ⟨_, _, _, rfl, hB1, hk30, hp1, hf1, hb1⟩
end Go.Proofs.Ytcnhgkgabddjmaa
