/-
  The contract of the equations' answer.
-/
import Derived.Test.YtelnhpcehmdffaaSkF
import Derived.RegionTactic
import Derived.ChangeAlike
import Derived.BigRegion
import Derived.WalkMore
namespace Go.Proofs.Ytelnhpcehmdffaa
open Go.RowKit
attribute [local go_sem] T_V

/-- What solve answers. -/
def SolveTo (base R n : Nat) (M0 : Nat → Nat → F) (w : World) (e : Ending) (w' : World) : Prop :=
  Below base w w' ∧ ((∃ g l, e = .returned (.tuple #[.slice (some ⟨g, 0, none⟩) n n, .bool true]) ∧ U w' (some ⟨g, 0, none⟩) n (((List.range n).map l).map V) ∧ w.heap.size ≤ g ∧ Sol n R M0 l) ∨ (e = .returned (.tuple #[.slice none 0 0, .bool false]) ∧ ∀ l, ¬ Sol n R M0 l))
/-- No row from t on, below r, begins in a column. -/
def NoneYet (M : Nat → Nat → F) (t r c : Nat) : Prop := ∀ i, t ≤ i → i < r → M i c = 0
theorem NoneYet.start (M : Nat → Nat → F) (t c : Nat) : NoneYet M t t c := fun i h1 h2 => by omega
theorem NoneYet.step {M : Nat → Nat → F} {t r c : Nat} (h : NoneYet M t r c) (h0 : M r c = 0) : NoneYet M t (r + 1) c := fun i h1 h2 => by
  by_cases e : i = r
  · rw [e]; exact h0
  · exact h i h1 (by omega)
/-- What takes back, under a name. -/
def IsInv (x q : F) : Prop := ∀ y, y = x → inv y = q
/-- The rows with one that begins with 1, under a name. -/
def IsScaled (M : Nat → Nat → F) (r t : Nat) (q : F) (S : Nat → Nat → F) : Prop := scaleM (swapM M r t) t q = S
/-- A row, so many of its numbers times one. -/
def scaleR (f : Nat → F) (q : F) (k : Nat) : Nat → F := fun j => if j < k then f j * q else f j
theorem scaleR_at (f : Nat → F) (q : F) (k : Nat) : scaleR f q k k = f k := by unfold scaleR; rw [if_neg (by omega)]
theorem scaleR_step (f : Nat → F) (q : F) (k j : Nat) : Pol.upd (scaleR f q k) k (f k * q) j = scaleR f q (k + 1) j := by
  unfold Pol.upd scaleR
  by_cases e : j = k
  · subst e; rw [if_pos rfl, if_pos (by omega)]
  · rw [if_neg e]
    by_cases h : j < k
    · rw [if_pos h, if_pos (by omega)]
    · rw [if_neg h, if_neg (by omega)]
theorem lessM_at (S : Nat → Nat → F) (t c k : Nat) : lessM S t c k k = S k := by unfold lessM; rw [if_neg (by omega)]
theorem lessM_top (S : Nat → Nat → F) (t c k : Nat) : lessM S t c k t = S t := by unfold lessM; rw [if_neg (fun h => h.2 rfl)]
theorem lessM_skip (S : Nat → Nat → F) (t c : Nat) : lessM S t c (t + 1) = lessM S t c t := by
  funext i
  unfold lessM
  by_cases h : i < t ∧ i ≠ t
  · rw [if_pos h, if_pos (by omega)]
  · rw [if_neg h, if_neg (by omega)]
theorem lessM_step {S : Nat → Nat → F} {t c k : Nat} (hk : k ≠ t) : (fun i => if i = k then (fun j => S k j - S k c * S t j) else lessM S t c k i) = lessM S t c (k + 1) := by
  funext i
  unfold lessM
  by_cases e : i = k
  · subst e; rw [if_pos rfl, if_pos ⟨by omega, hk⟩]
  · rw [if_neg e]
    by_cases h : i < k ∧ i ≠ t
    · rw [if_pos h, if_pos (by omega)]
    · rw [if_neg h, if_neg (by omega)]
theorem scaleM_of {M : Nat → Nat → F} {r t : Nat} {q : F} : (fun i => if i = t then (fun j => M r j * q) else swapM M r t i) = scaleM (swapM M r t) t q := by
  funext i
  unfold scaleM
  by_cases e : i = t
  · rw [if_pos e, if_pos e]; funext j; unfold swapM; rw [if_pos rfl]
  · rw [if_neg e, if_neg e]
theorem rows_from (bo R capO t m : Nat) (hm : m + t = R) (hc : R ≤ capO) : ∃ q d, (∀ W, (Instr.slice 51 (.slice (some ⟨bo, 0, none⟩) R capO) (some (.int .i64 (t : Int))) none none).run Try.prog W = .ok (.slice q m d) W) ∧ (t < R → q = some ⟨bo, t, none⟩) := by
  refine ⟨if capO = t then some ⟨bo, 0, none⟩ else some ((⟨bo, 0, none⟩ : Addr).add t), capO - t, fun W => ?_, fun h => ?_⟩
  · have hs : (sizeOf (Try.prog.elem 51)).run Try.prog W = .ok 1 W := by kernel_rfl
    rw [run_slice_l W 51 (some ⟨bo, 0, none⟩) R capO (by kernel_rfl) .i64 (t : Int) (by omega) (by omega), hs]
    show Result.ok (Value.slice (if capO = (t : Int).toNat then some ⟨bo, 0, none⟩ else some ((⟨bo, 0, none⟩ : Addr).add ((t : Int).toNat * 1))) (R - (t : Int).toNat) (capO - (t : Int).toNat)) W = _
    rw [Int.toNat_natCast, Nat.mul_one, show R - t = m by omega]
  · rw [if_neg (by omega)]
    unfold Addr.add
    by_cases h0 : t = 0
    · rw [if_pos h0, h0]
    · rw [if_neg h0, Nat.zero_add]
theorem map_ofNat_len (l : List Nat) : (l.map Int.ofNat).length = l.length := by simp

theorem nth_ofNat (l : List Nat) (k : Nat) : nth (l.map Int.ofNat) k = ((l.getD k 0 : Nat) : Int) := by
  unfold nth
  rw [List.getD_eq_getElem?_getD, List.getD_eq_getElem?_getD, List.getElem?_map]
  cases l[k]? <;> rfl

set_option maxRecDepth 100000 in
set_option maxHeartbeats 8000000 in
theorem solve_any (base bo capO R n : Nat) (β0 κ0 : Nat → Nat) (M0 : Nat → Nat → F) (w : World) (hM0 : Mat w base w.heap.size bo R (n + 1) β0 κ0 M0) (hRc : R ≤ capO) (hn : n ≤ 1000) (hR : R ≤ 1000) :
    Calls Try.prog 28 #[.slice (some ⟨bo, 0, none⟩) R capO, .int .i64 n] w (SolveTo base R n M0 w) := by
  have hmk := make_ints n (by omega)
  have hb0 : Below w.heap.size w (w.alloc (.cells (Array.replicate n (.int .i64 0)) 3)) := Below.lit w _
  have hat0 := OwnI.made w n (by omega)
  have hM1 := hM0.below hb0
  have hbase : base ≤ w.heap.size := Nat.le_of_lt (Nat.lt_of_le_of_lt hM0.obase.1 hM0.obase.2)
  have hb1 := hb0.mono hbase
  have hg0 : Hid (GSt n R M0 M0 0 []) := Lib.hid (GSt.start n R M0)
  obtain ⟨w1, e1⟩ : ∃ w1, Hid (w.alloc (.cells (Array.replicate n (.int .i64 0)) 3) = w1) := ⟨_, Lib.hid rfl⟩
  rw [e1.out] at hb0 hat0 hM1 hb1
  have hw1 : w.heap.size ≤ w1.heap.size := hb0.size
  go_enter Try.func28, Try.ntmps28
  go_wp2
  go_step3
  go_wp2
  go_step3
  go_wp2
  rw [e1.out]
  clear hmk hb0
  go_loopw [7, 22] (fun av cv wr => ∃ (c : Nat) (at_ : List Nat) (pa : Option Addr) (ca : Nat) (β κ : Nat → Nat) (M : Nat → Nat → F), c ≤ n ∧ cv = .int .i64 c ∧ av = .slice pa at_.length ca ∧ OwnI wr w.heap.size (.slice pa at_.length ca) at_.length (at_.map Int.ofNat) ∧ Mat wr base w.heap.size bo R (n + 1) β κ M ∧ Hid (GSt n R M0 M c at_) ∧ Below base w wr ∧ w.heap.size ≤ wr.heap.size)
    (fun _ cv _ => n - (intOf cv).toNat)
  case atStart => exact ⟨0, [], some ⟨w.heap.size, 0, none⟩, n, β0, κ0, M0, by omega, rfl, rfl, hat0, hM1, hg0, hb1, hw1⟩
  case round =>
    clear hat0 hM1 hg0 hb1 hw1
    obtain ⟨c, at_, pa, ca, β, κ, M, hc, rfl, rfl, hat, hM, hg, hb, hw⟩ := hrel
    obtain ⟨t, ht⟩ : ∃ t, Hid (at_.length = t) := ⟨_, Lib.hid rfl⟩
    have htR : t ≤ R := by rw [← ht.out]; exact hg.out.len
    have htc : t ≤ c := by rw [← ht.out]; exact hg.out.few
    rw [ht.out] at hat ⊢
    by_cases hlt : c < n
    · go_wp2_with fail
      go_loop [7, 9] (fun av rv => ∃ r : Nat, t ≤ r ∧ r ≤ R ∧ rv = .int .i64 r ∧ av = .slice pa t ca ∧ Hid (NoneYet M t r c)) (fun _ rv => R - (intOf rv).toNat)
      case atStart => exact ⟨t, Nat.le_refl _, htR, rfl, rfl, Lib.hid (NoneYet.start M t c)⟩
      case round =>
        obtain ⟨r, hr0, hr1, rfl, rfl, hny⟩ := hrel
        by_cases hlr : r < R
        · have hco := hM.out r hlr
          have hcr := (hM.row r hlr).cell c (by omega)
          by_cases hz : M r c = 0
          · have tz : (V (M r c) == 0) = true := by rw [V_inj_zero, beq_iff_eq]; exact hz
            have hny2 : Hid (NoneYet M t (r + 1) c) := Lib.hid (hny.out.step hz)
            clear hz hny
            go_wp2_with fail
            go_round
            case rel => exact ⟨r + 1, by omega, by omega, by go_num, rfl, hny2⟩
            case measure => simp [intOf]; omega
          · have tz : (V (M r c) == 0) = false := by rw [V_inj_zero, beq_eq_false_iff_ne]; exact hz
            have htR2 : t < R := by omega
            have hct := hM.out t htR2
            have hfo := hM.ofree r
            have hfo2 := hM.ofree t
            have hz' := Lib.hid hz
            clear hz hny
            go_wp2_with fail
            have ir0 : (0 : Int) ≤ (r : Int) := by omega
            have ir1 : (r : Int) < (R : Int) := by omega
            have it0 : (0 : Int) ≤ (t : Int) := by omega
            have it1 : (t : Int) < (R : Int) := by omega
            obtain ⟨u2, hc2⟩ : ∃ u, (wr.setCell ⟨bo, r, none⟩ (.slice (some ⟨β t, 0, none⟩) (n + 1) (κ t))).cell? ⟨bo, t, none⟩ = some u := cell?_setCell_some (hM.out t htR2)
            go_region
            clear ir0 ir1 it0 it1
            have hMs := (hM.swap hlr htR2).drawn
            have hbs : Below base w ((wr.setCell ⟨bo, r, none⟩ (.slice (some ⟨β t, 0, none⟩) (n + 1) (κ t))).setCell ⟨bo, t, none⟩ (.slice (some ⟨β r, 0, none⟩) (n + 1) (κ r))).drew := ((hb.setCell hM.obase.1 _).setCell hM.obase.1 _).drew
            have hats : OwnI ((wr.setCell ⟨bo, r, none⟩ (.slice (some ⟨β t, 0, none⟩) (n + 1) (κ t))).setCell ⟨bo, t, none⟩ (.slice (some ⟨β r, 0, none⟩) (n + 1) (κ r))).drew w.heap.size (.slice pa t ca) t (at_.map Int.ofNat) :=
              hat.far (grown_drew (grown_put (grown_put (grown_refl wr (some bo)) r _) t _)) hM.obase.2
            have hszs : w.heap.size ≤ ((wr.setCell ⟨bo, r, none⟩ (.slice (some ⟨β t, 0, none⟩) (n + 1) (κ t))).setCell ⟨bo, t, none⟩ (.slice (some ⟨β r, 0, none⟩) (n + 1) (κ r))).drew.heap.size := by simpa [World.setCell] using hw
            obtain ⟨w2, e2⟩ : ∃ w2, Hid (((wr.setCell ⟨bo, r, none⟩ (.slice (some ⟨β t, 0, none⟩) (n + 1) (κ t))).setCell ⟨bo, t, none⟩ (.slice (some ⟨β r, 0, none⟩) (n + 1) (κ r))).drew = w2) := ⟨_, Lib.hid rfl⟩
            rw [e2.out] at hMs hbs hats hszs
            go_upto_region 12 with fail
            rw [e2.out]
            clear hc2 hct hco hcr hfo hfo2 hat hM hb hw tz
            have hst : swapM M r t t = M r := by unfold swapM; rw [if_pos rfl]
            have c12 := hMs.out t htR2
            have r12 := (hMs.row t htR2).cell c (by omega)
            rw [hst] at r12
            obtain ⟨β', hβ'⟩ : ∃ β', Hid (swp2 β r t = β') := ⟨_, Lib.hid rfl⟩
            obtain ⟨κ', hκ'⟩ : ∃ κ', Hid (swp2 κ r t = κ') := ⟨_, Lib.hid rfl⟩
            rw [hβ'.out] at r12
            rw [hβ'.out, hκ'.out] at hMs c12
            have hst' := Lib.hid hst
            clear hst
            go_wp2_with fail
            refine (inv_b (Below.refl _ _) _ (V_lo _) (V_64 _)).mono ?_
            rintro e w3 ⟨rfl, hb3⟩
            rw [T_V]
            obtain ⟨q, hq⟩ : ∃ q, Hid (IsInv (M r c) q) := ⟨_, Lib.hid fun y e => by rw [e]⟩
            have hq' : inv (M r c) = q := hq.out _ rfl
            rw [hq']
            clear hq' c12 r12
            have hM3 := hMs.below (hb3.mono hszs)
            have hat3 := hats.below hb3
            have hb03 := hbs.trans (hb3.mono (Nat.le_trans hbase hszs))
            have hsz3 : w.heap.size ≤ w3.heap.size := Nat.le_trans hszs hb3.size
            clear hMs hats hbs hszs hb3
            have c3 := hM3.out t htR2
            have r3 := hM3.row t htR2
            rw [hst'.out] at r3
            have r30 : RowAt w3 (β' t) (n + 1) (scaleR (M r) q 0) := r3.congr fun j _ => by unfold scaleR; rw [if_neg (by omega)]
            go_wp2_with fail
            go_loopw [12, 70] (fun _ kv wy => ∃ k : Nat, k ≤ n + 1 ∧ kv = .int .i64 k ∧ RowAt wy (β' t) (n + 1) (scaleR (M r) q k) ∧ w3.grownBy wy (some (β' t))) (fun _ kv _ => n + 1 - (intOf kv).toNat)
            case atStart => exact ⟨0, Nat.zero_le _, rfl, r30, grown_refl _ _⟩
            case round =>
              clear r30 r3 c3
              obtain ⟨k, hk, rfl, hrow, hgr⟩ := hrel
              by_cases hlk : k < n + 1
              · have hMy := hM3.change htR2 hrow hgr
                have cy := hMy.out t htR2
                have ry := hrow.cell k hlk
                rw [scaleR_at] at ry
                have fy := hrow.free k
                have it0 : (0 : Int) ≤ (t : Int) := by omega
                have it1 : (t : Int) < (R : Int) := by omega
                have ik0 : (0 : Int) ≤ (k : Int) := by omega
                have ik1 : (k : Int) < (n : Int) + 1 := by omega
                have hr2 := ((hrow.put hlk (M r k * q)).congr fun j _ => scaleR_step (M r) q k j).drawn
                have hg2 := grown_drew (grown_put hgr k (.int .u64 (V (M r k * q))))
                clear hMy
                go_wp2_with fail
                refine wp_region_still_tail 15 (by kernel_rfl) (by kernel_rfl) ?_
                simp only [List.take_succ_cons, List.take_zero, List.drop_succ_cons, List.drop_zero]
                repeat (first
                  | still_step
                  | (still_call (still_of (mul_any _ _ _ (V_lo _) (V_64 _) (V_lo _) (V_64 _)))))
                refine wpStill_nil ?_
                clear it0 it1 ik0 ik1
                change wpList _ _ _ _ _ wr.drew
                go_wp2
                go_roundw
                case rel => exact ⟨k + 1, by omega, by go_num, hr2, hg2⟩
                case measure => simp [intOf]; omega
              · have hrow4 : RowAt wr (β' t) (n + 1) (fun j => M r j * q) := hrow.congr fun j hj => by unfold scaleR; rw [if_pos (by omega)]
                have hM4 := hM3.change htR2 hrow4 hgr
                rw [scaleM_of] at hM4
                have hb4 : Below base w wr := hb03.grown hgr (Nat.le_trans hbase hsz3) (fun i e => by injection e with e; rw [← e]; exact (hM3.rbase t htR2).1)
                have hat4 := hat3.far hgr (hM3.rbase t htR2).2
                have hsz4 : w.heap.size ≤ wr.heap.size := Nat.le_trans hsz3 hgr.size
                obtain ⟨S, hS⟩ : ∃ S, Hid (IsScaled M r t q S) := ⟨_, Lib.hid rfl⟩
                have hS' : scaleM (swapM M r t) t q = S := hS.out
                rw [hS'] at hM4
                clear hS'
                have hM40 : Mat wr base w.heap.size bo R (n + 1) β' κ' (lessM S t c 0) := by rw [lessM_zero]; exact hM4
                clear hrow hrow4 hgr hM3 hat3 hb03 hM4
                go_wp2_with fail
                go_loopw [13, 91] (fun _ kv wy => ∃ k : Nat, k ≤ R ∧ kv = .int .i64 k ∧ Mat wy base w.heap.size bo R (n + 1) β' κ' (lessM S t c k) ∧ OwnI wy w.heap.size (.slice pa t ca) t (at_.map Int.ofNat) ∧ Below base w wy ∧ w.heap.size ≤ wy.heap.size) (fun _ kv _ => R - (intOf kv).toNat)
                case atStart => exact ⟨0, Nat.zero_le _, rfl, hM40, hat4, hb4, hsz4⟩
                case round =>
                  clear hM40 hat4 hb4 hsz4
                  obtain ⟨k, hk, rfl, hMk, hatk, hbk, hszk⟩ := hrel
                  by_cases hlk : k < R
                  · by_cases hkt : k = t
                    · have tk : ((k : Int) != t) = false := by rw [hkt]; exact bne_self_eq_false _
                      have hMk2 : Mat wr base w.heap.size bo R (n + 1) β' κ' (lessM S t c (k + 1)) := by rw [hkt] at hMk ⊢; rw [lessM_skip]; exact hMk
                      clear hkt
                      go_wp2_with fail
                      go_roundw
                      case rel => exact ⟨k + 1, by omega, by go_num, hMk2, hatk, hbk, hszk⟩
                      case measure => simp [intOf]; omega
                    · have tk : ((k : Int) != t) = true := by rw [bne_iff_ne]; omega
                      have d1 := hMk.out k hlk
                      have d2 := hMk.out t htR2
                      have d3 := (hMk.row k hlk).cell c (by omega)
                      have rk := hMk.row k hlk
                      have rt := hMk.row t htR2
                      rw [lessM_at] at d3 rk
                      rw [lessM_top] at rt
                      have hne : β' k ≠ β' t := fun e => hkt (hMk.inj k t hlk htR2 e)
                      have hkt' := Lib.hid hkt
                      have it0 : (0 : Int) ≤ (t : Int) := by omega
                      have it1 : (t : Int) < (R : Int) := by omega
                      have ik0 : (0 : Int) ≤ (k : Int) := by omega
                      have ik1 : (k : Int) < (R : Int) := by omega
                      have ic0 : (0 : Int) ≤ (c : Int) := by omega
                      have ic1 : (c : Int) < (n : Int) + 1 := by omega
                      clear hkt
                      go_wp2_with fail
                      refine wp_region_still_tail 16 (by kernel_rfl) (by kernel_rfl) ?_
                      simp only [List.take_succ_cons, List.take_zero, List.drop_succ_cons, List.drop_zero]
                      repeat still_step
                      refine wpStill_nil ?_
                      clear it0 it1 ik0 ik1 ic0 ic1
                      change wpList _ _ _ _ _ wr.drew
                      go_wp2_with fail
                      refine (lessRow_any (β' k) (β' t) (n + 1) (κ' k) (κ' t) (S k) (S t) (S k c) _ rk.drawn rt.drawn hne (by omega)).mono ?_
                      rintro e w5 ⟨rfl, hr5, hg5⟩
                      have hM5 := hMk.drawn.change hlk hr5 hg5
                      rw [lessM_step hkt'.out] at hM5
                      have hat5 := hatk.drawn.far hg5 (hMk.rbase k hlk).2
                      have hb5 : Below base w w5 := hbk.drew.grown hg5 (Nat.le_trans hbase hszk) (fun i e => by injection e with e; rw [← e]; exact (hMk.rbase k hlk).1)
                      have hsz5 : w.heap.size ≤ w5.heap.size := Nat.le_trans hszk hg5.size
                      clear hMk hatk hbk d1 d2 d3 rk rt hr5 hg5
                      go_wp2_with fail
                      go_roundw
                      case rel => exact ⟨k + 1, by omega, by go_num, hM5, hat5, hb5, hsz5⟩
                      case measure => simp [intOf]; omega
                  · obtain rfl : k = R := by omega
                    have hpe : lessM S t c k = pivM M k r t c := by
                      unfold pivM
                      rw [hq.out _ rfl]
                      have e : scaleM (swapM M r t) t q = S := hS.out
                      rw [e]
                    have hg2 : Hid (GSt n k M0 (lessM S t c k) (c + 1) (at_ ++ [c])) := Lib.hid (by
                      have h := hg.out.piv (r := r) (by rw [ht.out]; omega) hlr hz'.out
                      rw [ht.out] at h
                      rw [hpe]; exact h)
                    have hlen2 : Hid ((at_ ++ [c]).length = t + 1) := Lib.hid (by rw [List.length_append, ht.out]; rfl)
                    have hmap2 : Hid ((at_ ++ [c]).map Int.ofNat = at_.map Int.ofNat ++ [(c : Int)]) := Lib.hid (by rw [List.map_append]; rfl)
                    clear hpe
                    go_wp2_with (at_builtin; refine app_i rfl _ _ rfl hatk rfl rfl (by omega) hszk ?_; intro v' w6 hat6 hb6; obtain ⟨pv, cv, rfl⟩ := hat6.form)
                    have hM6 := hMk.below hb6
                    have hb06 := hbk.trans (hb6.mono hbase)
                    have hsz6 : w.heap.size ≤ w6.heap.size := Nat.le_trans hszk hb6.size
                    rw [← hmap2.out] at hat6
                    clear hMk hatk hbk hb6
                    go_roundw
                    case rel => exact ⟨c + 1, at_ ++ [c], pv, cv, β', κ', _, by omega, by go_num, by rw [hlen2.out], by rw [hlen2.out]; exact hat6, hM6, hg2, hb06, hsz6⟩
                    case measure => simp [intOf]; omega
        · obtain rfl : r = R := by omega
          have hg2 : Hid (GSt n r M0 M (c + 1) at_) := Lib.hid (hg.out.skip fun i h1 h2 => hny.out i (by rw [← ht.out]; exact h1) h2)
          clear hny
          go_wp2_with fail
          go_roundw
          case rel => exact ⟨c + 1, at_, pa, ca, β, κ, M, by omega, by go_num, by rw [ht.out], by rw [ht.out]; exact hat, hM, hg2, hb, hw⟩
          case measure => simp [intOf]; omega
    · obtain rfl : c = n := by omega
      obtain ⟨m, hm⟩ : ∃ m, m + t = R := ⟨R - t, by omega⟩
      obtain ⟨q, d, hsl, hq⟩ := rows_from bo R capO t m hm hRc
      have hRm : R ≤ m + t ∧ m + t ≤ R := by omega
      clear hm htc
      go_wp2_with fail
      go_loop [125] (fun iv => ∃ i : Nat, i ≤ m ∧ iv = .int .i64 i ∧ Hid (NoneYet M t (t + i) c)) (fun iv => m - (intOf iv).toNat)
      case atStart => exact ⟨0, Nat.zero_le _, rfl, Lib.hid (NoneYet.start M t c)⟩
      case round =>
        clear hsl
        obtain ⟨i, hi, rfl, hny⟩ := hrel
        by_cases hli : i < m
        · have hq1 := hq (by omega)
          subst hq1
          have hco := hM.out (t + i) (by omega)
          have hcr := (hM.row (t + i) (by omega)).cell c (by omega)
          by_cases hz : M (t + i) c = 0
          · have tz : (V (M (t + i) c) != 0) = false := by rw [hz]; rfl
            have hny2 : Hid (NoneYet M t (t + (i + 1)) c) := Lib.hid (hny.out.step hz)
            clear hz hny hq
            go_wp2_with fail
            go_round
            case rel => exact ⟨i + 1, by omega, by go_num, hny2⟩
            case measure => simp [intOf]; omega
          · have tz : (V (M (t + i) c) != 0) = true := by rw [bne_iff_ne]; exact fun e => hz ((V_eq_zero _).1 e)
            have hfin : Hid (SolveTo base R c M0 w (.returned (.tuple #[.slice none 0 0, .bool false])) wr) := Lib.hid ⟨hb, .inr ⟨rfl, hg.out.none (by rw [ht.out]; omega) (by omega) hz⟩⟩
            clear hz hny hq
            go_wp2_with fail
            (try rw [Exit.noGoto_ret])
            go_ret2
            exact hfin.out
        · have hny2 : Hid (NoneYet M t R c) := Lib.hid (by
            have e : t + i = R := by omega
            have h := hny.out
            rwa [e] at h)
          have hsol : Hid (Sol c R M0 (outF M c at_ t)) := Lib.hid (by
            have h := hg.out.answer fun j h1 h2 => hny2.out j (by rw [← ht.out]; exact h1) h2
            rwa [ht.out] at h)
          have hmk : ∀ W, (Instr.makeSlice 22 (.int .i64 (c : Int)) (.int .i64 (c : Int))).run Try.prog W = .ok (.slice (some ⟨W.heap.size, 0, none⟩) c c) (W.alloc (.cells (Array.replicate c (.int .u64 0)) 40)) := by
            intro W
            have := make_row Try.prog 22 40 _ _ Try.underlying22 rfl rfl rfl rfl rfl (c : Int) (by omega) (by omega) W
            rw [this, Int.toNat_natCast, List.toArray_replicate]
          have hq0 : Arr (wr.alloc (.cells (Array.replicate c (.int .u64 0)) 40)) wr.heap.size 40 (arrF c (outF M c at_ 0)) := by
            rw [arrF_zero c (outF M c at_ 0) (fun _ => rfl), ← List.toArray_replicate]; exact Arr.new _ _ _
          have hbq : Below wr.heap.size wr (wr.alloc (.cells (Array.replicate c (.int .u64 0)) 40)) := Below.lit wr _
          have hMf : Hid (∀ wy, Below wr.heap.size wr wy → Mat wy base w.heap.size bo R (c + 1) β κ M) := Lib.hid fun wy h => hM.below (h.mono hw)
          have hff : Hid (∀ wy, Below wr.heap.size wr wy → Arr wy wr.heap.size 40 (arrF c (outF M c at_ t)) → SolveTo base R c M0 w (.returned (.tuple #[.slice (some ⟨wr.heap.size, 0, none⟩) c c, .bool true])) wy) := Lib.hid fun wy h ha => ⟨hb.trans (h.mono (Nat.le_trans hbase hw)), .inl ⟨_, _, rfl, ha.fs, hw, hsol.out⟩⟩
          clear hny hny2 hq
          go_wp2_with fail
          go_loopw [139] (fun kv wy => ∃ k : Nat, k ≤ t ∧ kv = .int .i64 k ∧ Arr wy wr.heap.size 40 (arrF c (outF M c at_ k)) ∧ Below wr.heap.size wr wy) (fun kv _ => t - (intOf kv).toNat)
          case atStart => exact ⟨0, Nat.zero_le _, rfl, hq0, hbq⟩
          case round =>
            clear hq0 hbq
            obtain ⟨k, hk, rfl, hq, hbq⟩ := hrel
            by_cases hlk : k < t
            · have hMk := hMf.out _ hbq
              have hak := hat.below hbq
              obtain ⟨g, rfl, hgl, ca0⟩ := hak.cell (i := k) hlk
              have d1 := hMk.out k (by omega)
              have d2 := (hMk.row k (by omega)).cell c (by omega)
              have hlt2 : at_.getD k 0 < c := hg.out.lt k (by rw [ht.out]; exact hlk)
              rw [nth_ofNat] at ca0
              have hstep := hq.set (at_.getD k 0) (.int .u64 (V (M k c)))
              rw [arrF_set c _ (outF M c at_ (k + 1)) (at_.getD k 0) _ (fun j => rfl)] at hstep
              obtain ⟨j, hj⟩ : ∃ j, Hid (at_.getD k 0 = j) := ⟨_, Lib.hid rfl⟩
              rw [hj.out] at ca0 hlt2 hstep
              have cq := hq.at_ hlt2
              have hfz : wr.frozen? ⟨_, j, none⟩ = false := hq.free j
              have hbs := hbq.setCell (p := ⟨_, j, none⟩) (Nat.le_refl _) (.int .u64 (V (M k c)))
              go_wp2_with fail
              go_roundw
              case rel => exact ⟨k + 1, by omega, by go_num, hstep, hbs⟩
              case measure => simp [intOf]; omega
            · obtain rfl : k = t := by omega
              have hfin := Lib.hid (hff.out _ hbq hq)
              go_wp2_with fail
              (try rw [Exit.noGoto_ret])
              go_ret2
              exact hfin.out
end Go.Proofs.Ytelnhpcehmdffaa
