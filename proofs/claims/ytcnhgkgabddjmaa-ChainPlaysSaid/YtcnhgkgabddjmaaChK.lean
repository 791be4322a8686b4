/-
  Chains of keys (10): Put.
-/
import Derived.Test.YtcnhgkgabddjmaaChJ
namespace Go.Proofs.Ytcnhgkgabddjmaa
open Go.RowKit Go.Maps

/-- The bytes of the keys that are kept. -/
def putKs : List (Int × Int) → List Int
  | [] => []
  | p :: ks => (sevens (2 * p.1.toNat) ++ sevens p.2.toNat) ++ putKs ks
theorem putKs_append (a b : List (Int × Int)) : putKs (a ++ b) = putKs a ++ putKs b := by
  induction a with
  | nil => rfl
  | cons p a ih => show (_ ++ _) ++ putKs (a ++ b) = ((_ ++ _) ++ putKs a) ++ putKs b; rw [ih, List.append_assoc, List.append_assoc, List.append_assoc]
/-- A chain's bytes. -/
def putB (m : Ch) : List Int := ((sevens (2 * m.num) ++ sevens m.st.toNat) ++ sevens (2 * m.ks.length)) ++ putKs m.ks
theorem putKs_len (ks : List (Int × Int)) (h : ∀ p ∈ ks, p.1 ≤ 1152921504606846976 ∧ p.2 ≤ 2305843009213693949) : (putKs ks).length ≤ 20 * ks.length := by
  induction ks with
  | nil => exact Nat.le_refl _
  | cons p ks ih =>
    have hp := h p (List.mem_cons_self ..)
    have h1 := (sevens_len64 (n := 2 * p.1.toNat) (by omega)).2
    have h2 := (sevens_len64 (n := p.2.toNat) (by omega)).2
    have h3 := ih fun q hq => h q (List.mem_cons_of_mem _ hq)
    show ((_ ++ _) ++ putKs ks).length ≤ 20 * (ks.length + 1)
    simp only [List.length_append]
    omega
theorem valK_at {ks : List (Int × Int)} (hr : ks.Pairwise fun p q => p.1 < q.1) {p : Int × Int} (hp : p ∈ ks) : valK ks p.1 = some p.2 := by
  induction ks with
  | nil => cases hp
  | cons q ks ih =>
    obtain ⟨h1, h2⟩ := List.pairwise_cons.1 hr
    unfold valK at ih ⊢
    rcases List.mem_cons.1 hp with e | hp
    · subst e
      rw [List.find?_cons_of_pos (by simp)]; rfl
    · have := h1 p hp
      rw [List.find?_cons_of_neg (by simp; omega)]
      exact ih h2 hp
theorem UI.kp {w w' : World} {o lo hi : Nat} {p : Option Addr} {n : Nat} {xs : List Int} (h : UI w p n xs) (hk : Kp o lo hi w w') (hf : FarP lo p) (hh : w.heap.size = hi) : UI w' p n xs := by
  by_cases hn : n = 0
  · subst hn
    have : xs = [] := List.eq_nil_of_length_eq_zero h.len
    exact ⟨h.len, .inl (by rw [this]; rfl), h.bd⟩
  · exact ⟨h.len, h.rd.same fun a ha => hk.mid _ (hf a ha) (by have := h.rd_lt hn a ha; omega), h.bd⟩
set_option maxRecDepth 100000 in
set_option maxHeartbeats 2000000 in
theorem Put_any (c b : Nat) (m : Ch) (w : World) (hC : ChAt w c b m) (hok : m.Ok) (hn : m.num ≤ 1152921504606846976) :
    Calls Try.prog 18 #[.pointer (some ⟨c, 0, none⟩)] w fun e w' => ∃ p cp, e = .returned (.slice p (putB m).length cp) ∧ (putB m).length ≤ cp ∧ B8 w' p (putB m).length (putB m) ∧ FarP w.heap.size p ∧ (p = none → cp = 0) ∧ Below w.heap.size w w' ∧ (putB m).length ≤ 2000 := by
  have hfew := hok.few
  obtain ⟨S, hS⟩ : ∃ S : Nat, m.st = S := ⟨m.st.toNat, by rcases hok.st with h | h <;> omega⟩
  have hS1 : S ≤ 2305843009213693949 := by rcases hok.st with h | h <;> omega
  obtain ⟨L, hL⟩ : ∃ L, m.ks.length = L := ⟨_, rfl⟩
  rw [hL] at hfew
  have hcb : c < w.heap.size ∧ b < w.heap.size := ⟨hC.lt, hC.map.lt⟩
  have hlow : ∀ q ∈ m.ks, q.1 ≤ 1152921504606846976 ∧ q.2 ≤ 2305843009213693949 := fun q hq => by
    have h1 := hok.low q hq
    have h2 := hok.val q hq
    omega
  have hpk := putKs_len m.ks hlow
  rw [hL] at hpk
  have l1 := sevens_len64 (n := 2 * m.num) (by omega)
  have l2 := sevens_len64 (n := S) (by omega)
  have l3 := sevens_len64 (n := 2 * L) (by omega)
  have hput : Hid (putB m = ((sevens (2 * m.num) ++ sevens S) ++ sevens (2 * L)) ++ putKs m.ks) := Lib.hid (by unfold putB; rw [hS, hL]; rfl)
  have hpl : (putB m).length ≤ 2000 := by rw [hput.out]; simp only [List.length_append]; omega
  generalize putB m = PB at *
  have hb0 := Below.lit w (.cells #[.slice none 0 0] 76)
  have hC0 := hC.below hb0
  have hO0 : OutX (w.alloc (.cells #[.slice none 0 0] 76)) w.heap.size (w.heap.size + 1) (w.heap.size + 1) [] := ⟨_, World.alloc_heap_new w _, OwnB.nil _ _, fun g hg => by cases hg⟩
  have hz0 : w.heap.size + 1 ≤ (w.alloc (.cells #[.slice none 0 0] 76)).heap.size := by simp
  have x0 := hC0.c0
  have x1 := hC0.c1
  have x2 := hC0.c2
  rw [hS] at x1
  replace hok := Lib.hid hok
  replace hL := Lib.hid hL
  replace hS := Lib.hid hS
  replace hlow := Lib.hid hlow
  clear hC
  go_enter Try.func18, Try.ntmps18
  go_wp2_with fail
  refine (OInt_any w.heap.size _ _ m.num [] _ hO0 (Nat.lt_succ_self _) hz0 (by simp) hn).mono ?_
  rintro e w1 ⟨rfl, hO1, hk1⟩
  rw [List.nil_append] at hO1
  have hC1 := hC0.belowB hk1.bl hcb.1 hcb.2
  have hz1 := Nat.le_trans hz0 hk1.bl.size
  have hb1 : Below w.heap.size w w1 := hb0.trans hk1.bl
  have x1 := hC1.c1
  rw [hS.out] at x1
  clear hC0 hO0 hb0 x0 hk1
  go_wp2_with fail
  refine (Num_any w.heap.size _ _ S _ _ hO1 (Nat.lt_succ_self _) hz1 (by omega) (by omega)).mono ?_
  rintro e w2 ⟨rfl, hO2, hk2⟩
  have hC2 := hC1.belowB hk2.bl hcb.1 hcb.2
  have hz2 := Nat.le_trans hz1 hk2.bl.size
  have hb2 := hb1.trans hk2.bl
  have x2 := hC2.c2
  obtain ⟨nn, D, hown, hD, _⟩ := hC2.map
  have hlen : ∀ ty, (Builtin.len_ #[69] ty #[.map (some b)]).run Try.prog w2 = .ok (.int .i64 L) w2 := fun ty => by
    have := hown.len Try.underlying69 ty
    rwa [hD.size, hL.out] at this
  clear hC1 hO1 hb1 hk2 x1 hown hD
  go_wp2_with fail
  refine (OInt_any w.heap.size _ _ L _ _ hO2 (Nat.lt_succ_self _) hz2 (by simp only [List.length_append]; omega) (by omega)).mono ?_
  rintro e w3 ⟨rfl, hO3, hk3⟩
  have hC3 := hC2.belowB hk3.bl hcb.1 hcb.2
  have hz3 := Nat.le_trans hz2 hk3.bl.size
  have hb3 := hb2.trans hk3.bl
  clear hC2 hO2 hb2 hk3 x2 hlen
  go_wp2_with fail
  refine (Kept_any c b m _ hC3 hok.out hn).mono ?_
  rintro e w4 ⟨p4, c4, rfl, h4, hf4, hb4⟩
  have hC4 := hC3.below hb4
  have hO4 := (hO3.turn (lo' := w3.heap.size) (hi' := w4.heap.size) (Nat.le_refl _)).below hb4
  have hb40 := hb3.trans (hb4.mono hb3.size)
  have hol : w.heap.size < w3.heap.size := hz3
  rw [hL.out] at h4 ⊢
  clear hC3 hO3 hb3 hb4
  go_wp2_with fail
  go_loopw [30] (fun i wr => ∃ k : Nat, k ≤ L ∧ i = .int .i64 k ∧ OutX wr w.heap.size w3.heap.size w4.heap.size (((sevens (2 * m.num) ++ sevens S) ++ sevens (2 * L)) ++ putKs (m.ks.take k)) ∧ ChAt wr c b m ∧ Kp w.heap.size w3.heap.size w4.heap.size w4 wr)
    (fun i _ => L - (intOf i).toNat)
  case atStart => exact ⟨0, Nat.zero_le _, rfl, by rw [List.take_zero]; show OutX _ _ _ _ (_ ++ []); rw [List.append_nil]; exact hO4, hC4, Kp.refl _ _ _ _⟩
  case round =>
    obtain ⟨k, hk, rfl, hO, hCr, hkr⟩ := hrel
    clear hO4 hC4
    have hsz : w4.heap.size ≤ wr.heap.size := hkr.bl.size
    have hbr := hb40.trans hkr.bl
    by_cases hlt : k < L
    · have hur := h4.kp hkr hf4 rfl
      obtain ⟨bb, off, rfl, _, hcl, hxb⟩ := hur.look hlt
      have hkl : k < m.ks.length := by rw [hL.out]; exact hlt
      have hq := List.getElem_mem hkl
      have hlq := hlow.out _ hq
      have hlo := hok.out.low _ hq
      have hvq := hok.out.val _ hq
      have hva := valK_at hok.out.rise hq
      have hnk : nth (numsK m.ks) k = m.ks[k].1 := by unfold nth numsK; rw [List.getD_eq_getElem?_getD, List.getElem?_map, List.getElem?_eq_getElem hkl]; rfl
      have htk : Hid (putKs (m.ks.take (k + 1)) = putKs (m.ks.take k) ++ (sevens (2 * m.ks[k].1.toNat) ++ sevens m.ks[k].2.toNat)) := Lib.hid (by
        rw [List.take_succ_eq_append_getElem hkl, putKs_append]
        show _ ++ ((_ ++ _) ++ []) = _
        rw [List.append_nil])
      have hpl2 : (putKs (m.ks.take k)).length ≤ 1000 := by
        have h1 := putKs_len (m.ks.take k) fun q hq => hlow.out q (List.mem_of_mem_take hq)
        have h2 : (m.ks.take k).length ≤ 50 := by rw [List.length_take]; omega
        omega
      obtain ⟨X, hX⟩ : ∃ X : Nat, m.ks[k].1 = X := ⟨m.ks[k].1.toNat, by omega⟩
      obtain ⟨Y, hY⟩ : ∃ Y : Nat, m.ks[k].2 = Y := ⟨m.ks[k].2.toNat, by omega⟩
      rw [hX] at hlq hlo hva hnk htk
      rw [hY] at hlq hvq hva htk
      rw [hnk] at hcl
      have y2 := hCr.c2
      have hix1 : (0 : Int) ≤ (k : Int) := by omega
      have hix2 : (k : Int) < (L : Int) := by omega
      replace hX := Lib.hid hX
      replace hY := Lib.hid hY
      replace hnk := Lib.hid hnk
      replace hva := Lib.hid hva
      replace hq := Lib.hid hq
      clear hur hxb
      go_wp2_with fail
      refine (OInt_any w.heap.size _ _ X _ _ hO hol hsz (by simp only [List.length_append]; omega) (by omega)).mono ?_
      rintro e w5 ⟨rfl, hO5, hk5⟩
      have hC5 := hCr.belowB hk5.bl hcb.1 hcb.2
      have hsz5 := Nat.le_trans hsz hk5.bl.size
      have hk50 := hkr.trans hk5
      have l5 := sevens_len64 (n := 2 * X) (by omega)
      have z2 := hC5.c2
      obtain ⟨nn5, D5, hown5, hD5, _⟩ := hC5.map
      have hat := Lib.hid (hD5.at_ X Y (.lit (.int .u64 0)) hva.out)
      have hkey := key_of (k := (X : Int)) (by omega) (by omega)
      clear hO hCr hkr hk5 y2 hcl
      go_wp2_with (at_lookup; refine wpList_lookup_own_int _ rfl _ _ 69 rfl 3 22 .u64 key_law Try.underlying69 Try.underlying22 (zero_u64 _) b nn5 D5 rfl hown5 _ _ rfl hkey ?_; intro c1 hat1 hwc; rw [hat.out] at hat1; injection hat1 with hat1; injection hat1 with _ hat1; subst hat1)
      refine (Num_any w.heap.size _ _ Y _ _ hO5 hol hsz5 (by simp only [List.length_append]; omega) (by omega)).mono ?_
      rintro e w6 ⟨rfl, hO6, hk6⟩
      have hC6 := hC5.belowB hk6.bl hcb.1 hcb.2
      have hk60 := hk50.trans hk6
      clear hO5 hC5 hk50 hown5 hk6
      go_wp2_with fail
      go_roundw
      case rel =>
        refine ⟨k + 1, by omega, by go_num, ?_, hC6, hk60⟩
        have h1 := htk.out
        rw [Int.toNat_natCast, Int.toNat_natCast] at h1
        rw [h1]
        simp only [List.append_assoc] at hO6 ⊢
        exact hO6
      case measure => simp [intOf]; omega
    · obtain rfl : k = L := by omega
      have hfin : ((sevens (2 * m.num) ++ sevens S) ++ sevens (2 * k)) ++ putKs (m.ks.take k) = PB := by
        rw [hput.out, List.take_of_length_le (by rw [hL.out]; exact Nat.le_refl _)]
      rw [hfin] at hO
      clear hfin
      go_wp2_with fail
      refine (Bytes_any w.heap.size _ _ PB _ hO (by omega)).mono ?_
      rintro e w7 ⟨p7, c7, rfl, hc7, hB7, hf7, hp7, hb7⟩
      go_wp2_with fail
      go_ret
      exact ⟨p7, c7, rfl, hc7, hB7, fun a ha => Nat.le_trans hbr.size (hf7 a ha), hp7, hbr.trans (hb7.mono hbr.size), hpl⟩
end Go.Proofs.Ytcnhgkgabddjmaa
