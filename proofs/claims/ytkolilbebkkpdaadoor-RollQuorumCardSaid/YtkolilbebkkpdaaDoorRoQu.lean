/-
  A quorum of guards: the walk.
-/
import Derived.Test.YtkolilbebkkpdaaDoorRoSi
import Derived.Test.YtkolilbebkkpdaaDoorRoSo
import Derived.Test.YtkolilbebkkpdaaDoorRoQp
namespace Go.Proofs.YtkolilbebkkpdaaDoor
open Go.RowKit Go.Maps Go.BigFrame
attribute [local go_sem] in_gr

/-- The k-th of the first operations. -/
def firstO (k : Nat) : OpI := if k = 0 then f0 else if k = 1 then f1 else f2
theorem first_at {k : Nat} (hk : k < 3) : ∃ h : k < firstL.length, firstL[k] = (firstO k, none, 0) := by
  have : k = 0 ∨ k = 1 ∨ k = 2 := by omega
  rcases this with rfl | rfl | rfl <;> exact ⟨by decide, rfl⟩
def sP (k : Nat) : RS := ((List.range k).map firstO).foldl (fun s o => s.act o ⟨o.b, 1, o.k⟩) RS.new
def sPk (k : Nat) : RS := if k = 0 then RS.new else if k = 1 then ⟨[1], [], [(1, ⟨3, none⟩)], 3⟩ else if k = 2 then ⟨[1, 2], [], [(1, ⟨3, none⟩), (2, ⟨3, none⟩)], 3⟩ else sF
theorem sPk_act {k : Nat} (hk : k < 3) (i : Idn) : (sPk k).act (firstO k) i = sPk (k + 1) := by
  have : k = 0 ∨ k = 1 ∨ k = 2 := by omega
  rcases this with rfl | rfl | rfl <;> rfl
theorem firstO_ok {k : Nat} (hk : k < 3) : (firstO k).Ok := by
  have : k = 0 ∨ k = 1 ∨ k = 2 := by omega
  rcases this with rfl | rfl | rfl <;> (constructor <;> simp [firstO, f0, f1, f2])
theorem firstO_k {k : Nat} (hk : k < 3) : (firstO k).k ≠ 9 ∧ (firstO k).gs = [] := by
  have : k = 0 ∨ k = 1 ∨ k = 2 := by omega
  rcases this with rfl | rfl | rfl <;> exact ⟨by decide, rfl⟩
theorem sPk_ok {k : Nat} (hk : k ≤ 3) : (sPk k).Ok k := by
  induction k with
  | zero => exact new_ok 0
  | succ k ih =>
    have h := ih (by omega)
    rw [← sPk_act (k := k) (by omega) ⟨0, 0, 0⟩]
    exact act_ok h (firstO_ok (by omega)) _ (by omega) (fun h9 => absurd h9 (firstO_k (by omega)).1)
/-- A list of operations that a roll does not hold. -/
structure OpsAt (w : World) (b : Nat) (l : List (OpI × Option Addr × Nat)) : Prop where
  rd : RdE opE w (some ⟨b, 0, none⟩) l
  lt : b < w.heap.size
theorem OpsAt.block {w w' : World} {b : Nat} {l : List (OpI × Option Addr × Nat)} (h : OpsAt w b l) (hz : w.heap.size ≤ w'.heap.size) (hb : w'.heap[b]? = w.heap[b]?) : OpsAt w' b l :=
  ⟨h.rd.same hz fun a ha _ => by injection ha with ha; rw [← ha]; exact hb, Nat.lt_of_lt_of_le h.lt hz⟩
theorem OpsAt.below {w w' : World} {b : Nat} {l : List (OpI × Option Addr × Nat)} (h : OpsAt w b l) (hb : Below w.heap.size w w') : OpsAt w' b l := h.block hb.size (hb.block b h.lt)
theorem OpsAt.cells {w : World} {b : Nat} {l : List (OpI × Option Addr × Nat)} (h : OpsAt w b l) {k : Nat} {o : OpI} {gp : Option Addr} {gc : Nat} (hk : ∃ h : k < l.length, l[k] = (o, gp, gc)) : ∀ j u, (opC o gp gc)[j]? = some u → w.cell? ⟨b, k * 27 + j, none⟩ = some u := by
  obtain ⟨hk, e⟩ := hk
  obtain ⟨b', off, hp, _, hc⟩ := h.rd.op hk
  injection hp with hp
  injection hp with h1 h2
  subst h1; subst h2
  rw [e] at hc
  simpa using hc
/-- The guards' row, and the operation that names them. -/
structure GAt (w W : World) (n t : Int) : Prop where
  u : UI W (some ⟨w.heap.size, 0, none⟩) 3 [1, 2, 3]
  o : OpAt W (w.heap.size + 1) (qG n t) (some ⟨w.heap.size, 0, none⟩) 3
  hb : Below w.heap.size w W
theorem GAt.made (w : World) (n t : Int) : GAt w ((w.alloc (.cells #[.int .i64 1, .int .i64 2, .int .i64 3] 3)).alloc (.cells (opC (qG n t) (some ⟨w.heap.size, 0, none⟩) 3) 42)) n t := by
  have u : UI (w.alloc (.cells #[.int .i64 1, .int .i64 2, .int .i64 3] 3)) (some ⟨w.heap.size, 0, none⟩) 3 [1, 2, 3] := UI.row w [1, 2, 3] (by decide)
  have b1 := Below.lit w (.cells #[.int .i64 1, .int .i64 2, .int .i64 3] 3)
  have b2 := Below.lit (w.alloc (.cells #[.int .i64 1, .int .i64 2, .int .i64 3] 3)) (.cells (opC (qG n t) (some ⟨w.heap.size, 0, none⟩) 3) 42)
  have o := OpAt.made (w.alloc (.cells #[.int .i64 1, .int .i64 2, .int .i64 3] 3)) (qG n t) (some ⟨w.heap.size, 0, none⟩) 3
  have u2 := u.below b2
  simp only [World.size_alloc] at o b2
  exact ⟨u2, o, b1.trans (b2.mono (by omega))⟩
set_option maxRecDepth 100000 in
set_option maxHeartbeats 8000000 in
theorem quorum_any (w : World) (hA : Asks w) (need wait at_ when_ : Int) (hn0 : i64ok need) (hw0 : i64ok wait) (ha0 : i64ok at_) (he0 : i64ok when_) (p : Option Addr) (n : Nat) (xs : List Int) (c : Nat) (hU : UI w p n xs) (ob : Bool) :
    Calls Tryd.prog 3 #[.int .i64 need, .int .i64 wait, .slice p n c, .bool ob, .int .i64 at_, .int .i64 when_] w fun e w' => e = .returned (.bool true) ∧ Below w.heap.size w w' := by
  have h0 : 0 < w.heap.size := cell_lt hA.a0
  go_enter Tryd.func3, Tryd.ntmps3
  go_wp2_with fail
  refine (Cards_any _).mono ?_
  rintro e w1 ⟨v, rfl, hown, hb1⟩
  obtain ⟨p1, c1, rfl, hc1, hRd, _⟩ := hown.u
  go_wp2_with fail
  refine (New_any _ p1 c1 hRd).mono ?_
  rintro e w2 ⟨y, rfl, hR2, hb2, hf2⟩
  have hB2 := hb1.trans (hb2.mono hb1.size)
  obtain ⟨r, hr⟩ : ∃ r, Hid (y.r = r) := ⟨_, Lib.hid rfl⟩
  have hS2 : SitW w.heap.size r w w2 y RS.new := ⟨hR2, hr.out, fun i hi => Nat.le_trans hb1.size (hf2 i hi), hB2, hA.below hB2, hB2.size⟩
  rw [hr.out]
  clear hown hRd hc1 hR2 hf2 hb1 hb2 hA
  go_wp2_with fail
  refine (Ops_nil _).mono ?_
  rintro e w3 ⟨rfl, ho3, hb3⟩
  have hS3 := hS2.call hb3
  obtain ⟨bf, hbf⟩ : ∃ bf, Hid (w2.heap.size = bf) := ⟨_, Lib.hid rfl⟩
  have hF3 : OpsAt w3 bf firstL := by
    obtain ⟨p4, c4, hv, _, hrd, _, _, hob⟩ := ho3.u
    injection hv with hv _ _
    rw [← hv] at hrd
    have hl := ho3.lt (g := w2.heap.size) rfl
    rw [← hbf.out]
    exact ⟨hrd, hl.2⟩
  have hout3 : bf ∉ y.foot := hbf.out ▸ hS2.high (Nat.le_refl _)
  rw [hbf.out]
  clear ho3 hb3 hbf hS2 hB2
  go_wp2_with fail
  go_loopw [15] (fun i wr => ∃ (k : Nat) (yk : Lay), k ≤ 3 ∧ i = .int .i64 k ∧ SitW w.heap.size r w wr yk (sPk k) ∧ OpsAt wr bf firstL ∧ bf ∉ yk.foot) (fun i _ => 3 - (intOf i).toNat)
  case atStart => exact ⟨0, y, by omega, rfl, hS3, hF3, hout3⟩
  case round =>
    obtain ⟨k, yk, hk, rfl, hS, hF, hout⟩ := hrel
    by_cases hlt : k < 3
    · have hix1 : (0 : Int) ≤ (k : Int) := by omega
      have hix2 : (k : Int) < (3 : Int) := by omega
      obtain ⟨o, ho⟩ : ∃ o, Hid (firstO k = o) := ⟨_, Lib.hid rfl⟩
      have hok := firstO_ok hlt
      have hact := sPk_act hlt
      have hkk := firstO_k hlt
      have hat := first_at hlt
      rw [ho.out] at hok hact hkk hat
      have hcell : ∀ T, (∃ z : GrIn wr, T = z.at_) → ∀ j u, (opC o none 0)[j]? = some u → T.cell? ⟨bf, k * 27 + j, none⟩ = some u := fun T ⟨z, hz⟩ => by rw [hz]; exact (hF.below z.gr).cells hat
      replace hat := Lib.hid hat
      replace hact := Lib.hid hact
      replace hkk := Lib.hid hkk
      replace hcell := Lib.hid hcell
      go_wp2_with fail
      refine wp_region_gr_tail 11 (by kernel_rfl) (by kernel_rfl) ?_
      simp only [List.take_succ_cons, List.take_zero, List.drop_succ_cons, List.drop_zero]
      repeat (first
        | (go_big_quiet_want; refine quiet_mid _ rfl rfl hcell.out ?_; simp only [Act.put, List.setIfInBounds_toArray, List.set_cons_succ, List.set_cons_zero]; go_big_quiet_on)
        | go_big_quiet_step ((go_at_call 14; rename_i z; refine (Name_any o none 0 k _ hok.hk (by omega)).mono ?_; rintro e w' ⟨rfl, hbz⟩; exact ⟨rfl, z.on hbz⟩)))
      refine wpQuiet_nil ?_
      rintro T ⟨z, rfl⟩
      have hSz := hS.call z.gr
      have hUo : UI z.at_ none o.gs.length o.gs := by rw [hkk.out.2]; exact ⟨rfl, .nil, fun _ h => by cases h⟩
      go_wp2_with fail
      refine (Do_w hSz h0 o none 0 (o.name k) k (by omega) (sPk_ok hk) hok hUo (fun h => absurd h hkk.out.1)).mono ?_
      rintro e W2 ⟨rfl, y2, hS2, hz2, hk2⟩
      rw [hact.out] at hS2
      go_wp2_with fail
      have hk3 := hk2 bf (Nat.lt_of_lt_of_le hF.lt z.gr.size) hout
      go_roundw
      case rel => exact ⟨k + 1, y2, by omega, by go_num, hS2, (hF.below z.gr).block hz2 hk3.1, hk3.2⟩
      case measure => simp [intOf]; omega
    · have hk3 : k = 3 := by omega
      subst hk3
      obtain ⟨u, hu⟩ : ∃ u, Hid (around need 3 = u) := ⟨_, Lib.hid rfl⟩
      obtain ⟨t, ht⟩ : ∃ t, Hid (around wait 20 = t) := ⟨_, Lib.hid rfl⟩
      have hub := around_bd need 3 (by decide)
      have htb := around_bd wait 20 (by decide)
      rw [hu.out] at hub
      rw [ht.out] at htb
      obtain ⟨hu0, hu1⟩ := hub
      obtain ⟨ht0, ht1⟩ := htb
      obtain ⟨WG, hWG, hG⟩ := nameW (p := fun W => GAt wr W (1 + u) t) (GAt.made wr (1 + u) t)
      have hSG := hS.call hG.hb
      replace hS : SitW w.heap.size r w wr yk sF := hS
      replace hSG : SitW w.heap.size r w WG yk sF := hSG
      obtain ⟨q, hq⟩ : ∃ q, Hid (1 + u = q) := ⟨_, Lib.hid rfl⟩
      rw [hq.out] at hG hWG
      have hq1 : 1 ≤ q := by have := hq.out; omega
      have hq2 : q ≤ 3 := by have := hq.out; omega
      have hgok : (qG q t).Ok := qG_ok (by omega) (by omega)
      have hFok : RS.Ok sF 3 := sPk_ok (k := 3) (by omega)
      replace hgok := Lib.hid hgok
      replace hFok := Lib.hid hFok
      replace hG := Lib.hid hG
      replace hSG := Lib.hid hSG
      go_wp2_with fail
      refine (Around_any need 3 _ hn0.1 hn0.2 (by decide) (by decide)).mono ?_
      rintro e _ ⟨rfl, rfl⟩
      rw [hu.out]
      go_wp2_with fail
      refine (Around_any wait 20 _ hw0.1 hw0.2 (by decide) (by decide)).mono ?_
      rintro e _ ⟨rfl, rfl⟩
      rw [ht.out]
      rw [hq.out]
      go_upto_region 12 with (first
        | (rw [hWG.out])
        | (refine wpL_build rfl 42 _ rfl (opC (qG q t) (some ⟨wr.heap.size, 0, none⟩) 3) (by kernel_rfl) ?_; simp only [Act.put, List.setIfInBounds_toArray, List.set_cons_succ, List.set_cons_zero])
        | (refine wpL_alloc rfl rfl ?_; simp only [Act.put, List.setIfInBounds_toArray, List.set_cons_succ, List.set_cons_zero])
        | (refine wpL_store rfl _ _ rfl (n := qG q t) (gp := some ⟨wr.heap.size, 0, none⟩) (gc := 3) (by first | rfl | (simp only [World.size_alloc]; rfl)) rfl ?_; try simp only [Act.put])
        | fail)
      simp only [World.size_alloc]
      have hgo := hG.out.o
      have hgb := hG.out.hb.size
      have hgl := cell_lt hgo.cb
      obtain ⟨bg, hbg⟩ : ∃ bg, Hid (wr.heap.size + 1 = bg) := ⟨_, Lib.hid rfl⟩
      have hbg1 : wr.heap.size ≤ bg := by have := hbg.out; omega
      rw [hbg.out] at hgo hgl ⊢
      go_wp2_with (first
        | (refine wpList_load_row rfl 42 _ rfl bg rfl 42 (opC (qG q t) (some ⟨wr.heap.size, 0, none⟩) 3) (0, 0) _ hgo Tryd.underlying42 rfl (by kernel_rfl) ?_)
        | fail)
      refine (Name_w (b := 2) (s := 9) (u := 9) (qG q t) _ 3 8 _ hgok.out.hk (by decide) rfl rfl rfl).mono ?_
      rintro e W4 ⟨rfl, hb4⟩
      have hG4 := hgo.below hb4 hgl
      have hU4 := hG.out.u.below hb4
      have hS4 := hSG.out.call hb4
      clear hgo hgl hgb
      have hI5 := IdAt.made W4 ⟨2, 9, 9⟩
      have hb5 := Below.lit W4 (.cells #[.int .i64 2, .int .i64 9, .int .u64 9] 34)
      have hS5 := hS4.call hb5
      have hG5 := hG4.below hb5 (cell_lt hG4.cb)
      have hU5 := hU4.below hb5
      have hout5 : W4.heap.size ∉ yk.foot := hS4.high (Nat.le_refl _)
      obtain ⟨bi, hbi⟩ : ∃ bi, Hid (W4.heap.size = bi) := ⟨_, Lib.hid rfl⟩
      obtain ⟨W5, hW5, hI5⟩ := nameW (p := fun W => IdAt W W4.heap.size ⟨2, 9, 9⟩) hI5
      replace hI5 : IdAt W5 bi qI := by rw [← hbi.out]; exact hI5
      rw [hW5.out] at hS5 hG5 hU5
      rw [hbi.out] at hout5
      replace hS5 := Lib.hid hS5
      replace hU5 := Lib.hid hU5
      clear hb5 hG4 hU4 hS4 hSG hG hWG hS hF hout
      go_upto_region 13 with (first | (rw [hW5.out]) | fail)
      rw [hbi.out]
      go_wp2_with (first
        | (refine wpList_load_row rfl 42 _ rfl bg rfl 42 (opC (qG q t) (some ⟨wr.heap.size, 0, none⟩) 3) (0, 0) _ hG5 Tryd.underlying42 rfl (by kernel_rfl) ?_)
        | (refine wpList_load_row rfl 34 _ rfl bi rfl 34 #[.int .i64 2, .int .i64 9, .int .u64 9] (0, 0) _ hI5 Tryd.underlying34 rfl (by kernel_rfl) ?_)
        | fail)
      refine (May_w hS5.out (qG q t) _ 3 qI 3 (by decide) hFok.out hgok.out hU5.out).mono ?_
      rintro e W6 ⟨rfl, hb6⟩
      rw [q_may_guard]
      have hS6 := hS5.out.call hb6
      have hG6 := hG5.below hb6 (cell_lt hG5.cb)
      have hI6 := hI5.below hb6
      have hU6 := hU5.out.below hb6
      clear hS5 hG5 hI5 hU5 hb6
      go_wp2_with (first
        | (refine wpList_load_row rfl 42 _ rfl bg rfl 42 (opC (qG q t) (some ⟨wr.heap.size, 0, none⟩) 3) (0, 0) _ hG6 Tryd.underlying42 rfl (by kernel_rfl) ?_)
        | (refine wpList_load_row rfl 34 _ rfl bi rfl 34 #[.int .i64 2, .int .i64 9, .int .u64 9] (0, 0) _ hI6 Tryd.underlying34 rfl (by kernel_rfl) ?_)
        | fail)
      refine (Do_w hS6 h0 (qG q t) _ 3 qI 3 (by decide) hFok.out hgok.out hU6 (fun _ => by simp [qG])).mono ?_
      rintro e W7 ⟨rfl, y7, hS7, hz7, hk7⟩
      rw [q_guard] at hS7
      have hk7 := hk7 bi hI6.lt hout5
      have hI7 := hI6.block hk7.1
      have hout7 := hk7.2
      have hOk7 : RS.Ok (sQ q t [] false 0) 9 := by
        rw [← q_guard]
        exact act_ok hFok.out hgok.out qI (by decide) (fun _ => ⟨by simp [qG], hq1, by decide, by decide⟩)
      clear hS6 hG6 hI6 hU6 hFok hgok
      go_wp2_with fail
      go_loopw [20, 21, 22] (fun m v i wl => ∃ (j : Nat) (l : List Int) (y2 : Lay), j ≤ 3 ∧ j ≤ n ∧ m = .int .i64 j ∧ i = .int .i64 j ∧ l.length = j ∧ (∀ x ∈ l, 0 ≤ x ∧ x < 50) ∧ OwnI wl w.heap.size v j l ∧ (∀ g, v.ownBlock = some g → g ∉ y2.foot ∧ g ≠ bi) ∧ SitW w.heap.size r w wl y2 (sQ q t (voQ l) false 0) ∧ IdAt wl bi qI ∧ bi ∉ y2.foot ∧ (sQ q t (voQ l) false 0).Ok (9 + 2 * j)) (fun _ _ i _ => 3 - (intOf i).toNat)
      case atStart => exact ⟨0, [], y7, by omega, Nat.zero_le _, rfl, rfl, rfl, by simp, OwnI.nil _ _, by simp [Value.ownBlock], hS7, hI7, hout7, hOk7⟩
      case round =>
        clear hS7 hI7 hout7 hOk7 hz7
        obtain ⟨j, l, y2, hj3, hjn, rfl, rfl, hl, hlb, hown, hoo, hS, hI, hout, hOk⟩ := hrel
        by_cases hlt : j < n ∧ j < 3
        · obtain ⟨hltn, hlt3⟩ := hlt
          obtain ⟨b, off, rfl, _, hc, hx0, hx1⟩ := (hU.below hS.below).look hltn
          obtain ⟨x, hx⟩ : ∃ x, Hid (nth xs j = x) := ⟨_, Lib.hid rfl⟩
          rw [hx.out] at hc hx0 hx1
          have t1 : decide ((j : Int) < (n : Int)) = true := decide_eq_true (by omega)
          have t2 : decide (j < n) = true := decide_eq_true hltn
          have t3 : decide ((j : Int) < 3) = true := decide_eq_true (by omega)
          have t4 : decide (j < 3) = true := decide_eq_true hlt3
          have hix1 : (0 : Int) ≤ (j : Int) := by omega
          have hix2 : (j : Int) < (n : Int) := by omega
          have hj3' : (j : Int) < 3 := by omega
          go_wp2_with fail
          obtain ⟨a, ha⟩ : ∃ a, Hid (around x 50 = a) := ⟨_, Lib.hid rfl⟩
          have hab := around_bd x 50 (by decide)
          rw [ha.out] at hab
          obtain ⟨hab0, hab1⟩ := hab
          refine (Around_any x 50 _ hx0 hx1 (by decide) (by decide)).mono ?_
          rintro e _ ⟨rfl, rfl⟩
          rw [ha.out]
          have hvok : (qV j a).Ok := qV_ok hlt3 (by omega)
          have hvok2 : (qV j (a + 5)).Ok := qV_ok hlt3 (by omega)
          have hO1 := OpAt.made wr (qV j a) none 0
          have hb1 := Below.lit wr (.cells (opC (qV j a) none 0) 42)
          have hS1 := hS.call hb1
          have hI1 := hI.below hb1
          have hown1 := hown.below hb1
          have hvo : wr.heap.size ∉ y2.foot := hS.high (Nat.le_refl _)
          obtain ⟨bv, hbv⟩ : ∃ bv, Hid (wr.heap.size = bv) := ⟨_, Lib.hid rfl⟩
          obtain ⟨V1, hV1, hO1⟩ := nameW (p := fun W => OpAt W wr.heap.size (qV j a) none 0) hO1
          rw [hbv.out] at hO1 hvo
          rw [hV1.out] at hS1 hI1 hown1
          replace hS1 := Lib.hid hS1
          replace hown1 := Lib.hid hown1
          replace hvok := Lib.hid hvok
          replace hvok2 := Lib.hid hvok2
          replace hlb := Lib.hid hlb
          replace hoo := Lib.hid hoo
          replace hOk := Lib.hid hOk
          replace hS := Lib.hid hS
          replace hown := Lib.hid hown
          clear hb1
          go_upto_region 23 with (first
            | (rw [hV1.out])
            | (refine wpList_load_row rfl 34 _ rfl bi rfl 34 #[.int .i64 2, .int .i64 9, .int .u64 9] (0, 0) _ hI Tryd.underlying34 rfl (by kernel_rfl) ?_)
            | (refine wpL_build rfl 42 _ rfl (opC (qV j a) none 0) (by kernel_rfl) ?_; simp only [Act.put, List.setIfInBounds_toArray, List.set_cons_succ, List.set_cons_zero])
            | (refine wpL_alloc rfl rfl ?_; simp only [Act.put, List.setIfInBounds_toArray, List.set_cons_succ, List.set_cons_zero])
            | (refine wpL_store rfl _ _ rfl (n := qV j a) (gp := none) (gc := 0) (by first | rfl | (simp only [World.size_alloc]; rfl)) rfl ?_; try simp only [Act.put])
            | fail)
          rw [hbv.out]
          have hox : ∀ T, (∃ z : GrIn V1, T = z.at_) → OpAt T bv (qV j a) none 0 := fun T ⟨z, hz⟩ => by rw [hz]; exact hO1.below z.gr (cell_lt hO1.cb)
          replace hox := Lib.hid hox
          have hval : RS.may (sQ q t (voQ l) false 0) (qV j a) = 0 := q_may_vouch q t hl hlt3 a
          replace hval := Lib.hid hval
          refine wp_region_gr (by kernel_rfl) (by kernel_rfl) ?_
          repeat (first
            | (go_big_quiet_want; refine quiet_whole _ rfl rfl hox.out ?_; simp only [Act.put, List.setIfInBounds_toArray, List.set_cons_succ, List.set_cons_zero]; go_big_quiet_on)
            | go_big_quiet_step (first
              | (go_at_call 14; rename_i z; refine (Name_any (qV j a) none 0 j _ hvok.out.hk (by omega)).mono ?_; rintro e w' ⟨rfl, hbz⟩; exact ⟨rfl, z.on hbz⟩)
              | (go_at_call 16; rename_i z; refine (May_w (hS1.out.call z.gr) (qV j a) none 0 ((qV j a).name j) (9 + 2 * j) (by omega) hOk.out hvok.out ⟨rfl, .nil, fun _ h => (by cases h)⟩).mono ?_; rintro e w' ⟨rfl, hbz⟩; rw [hval.out]; exact ⟨rfl, z.on hbz⟩)))
          refine wpQuiet_nil ?_
          intro V2 hw10'
          obtain ⟨⟨_, hw_V2⟩, rfl⟩ := hw10'
          have hS2 := hS1.out.call hw_V2
          have hO2 := hO1.below hw_V2 (cell_lt hO1.cb)
          have hI2 := hI1.below hw_V2
          have hown2 := hown1.out.below hw_V2
          change Exit.then _ _ _ _ V2
          clear hox hval hS1 hO1 hI1 hown1
          replace hS2 := Lib.hid hS2
          replace hown2 := Lib.hid hown2
          go_wp2_with fail
          have hox : ∀ T, (∃ z : GrIn V2, T = z.at_) → OpAt T bv (qV j a) none 0 := fun T ⟨z, hz⟩ => by rw [hz]; exact hO2.below z.gr (cell_lt hO2.cb)
          replace hox := Lib.hid hox
          refine wp_region_gr_tail 5 (by kernel_rfl) (by kernel_rfl) ?_
          simp only [List.take_succ_cons, List.take_zero, List.drop_succ_cons, List.drop_zero]
          repeat (first
            | (go_big_quiet_want; refine quiet_whole _ rfl rfl hox.out ?_; simp only [Act.put, List.setIfInBounds_toArray, List.set_cons_succ, List.set_cons_zero]; go_big_quiet_on)
            | go_big_quiet_step ((go_at_call 14; rename_i z; refine (Name_any (qV j a) none 0 j _ hvok.out.hk (by omega)).mono ?_; rintro e w' ⟨rfl, hbz⟩; exact ⟨rfl, z.on hbz⟩)))
          refine wpQuiet_nil ?_
          rintro T ⟨z, rfl⟩
          have hSz := hS2.out.call z.gr
          have hOz := hO2.below z.gr (cell_lt hO2.cb)
          have hIz := hI2.below z.gr
          have hownz := hown2.out.below z.gr
          clear hox
          go_wp2_with fail
          refine (Do_w hSz h0 (qV j a) none 0 ((qV j a).name j) (9 + 2 * j) (by omega) hOk.out hvok.out ⟨rfl, .nil, fun _ h => (by cases h)⟩ (by simp [qV])).mono ?_
          rintro e V3 ⟨rfl, y3, hS3, hz3, hk3⟩
          rw [q_vouch q t hl hlt3 a] at hS3
          have hO3 := hOz.keep hk3 hvo
          have hk3i := hk3 bi hIz.lt hout
          have hI3 := hIz.block hk3i.1
          have hvo3 := (hk3 bv (cell_lt hOz.cb) hvo).2
          have hown3 := hownz.same fun g hg => (hk3 g (hownz.lt hg).2 (hoo.out g hg).1).1
          have hoo3 : ∀ g, Value.ownBlock u21 = some g → g ∉ y3.foot ∧ g ≠ bi := fun g hg => ⟨(hk3 g (hownz.lt hg).2 (hoo.out g hg).1).2, (hoo.out g hg).2⟩
          have hOk3 : (sQ q t (voQ (l ++ [a])) false 0).Ok (9 + 2 * j + 1) := by
            rw [← q_vouch q t hl hlt3 a ((qV j a).name j)]
            exact act_ok hOk.out hvok.out _ (by omega) (by simp [qV])
          have hou3 := hk3i.2
          clear hSz hOz hIz hownz hk3 hk3i hS2 hO2 hI2 hown2
          replace hS3 := Lib.hid hS3
          replace hown3 := Lib.hid hown3
          replace hoo3 := Lib.hid hoo3
          replace hOk3 := Lib.hid hOk3
          go_upto_region 26 with fail
          have hO4 := OpAt.made V3 (qV j a) none 0
          have hb4 := Below.lit V3 (.cells (opC (qV j a) none 0) 42)
          have hS4 := hS3.out.call hb4
          have hI4 := hI3.below hb4
          have hown4 := hown3.out.below hb4
          have hwo : V3.heap.size ∉ y3.foot := hS3.out.high (Nat.le_refl _)
          have hwi : bi ≠ V3.heap.size := fun e => by have := hI3.lt; omega
          have hwt : ∀ g, Value.ownBlock u21 = some g → g ≠ V3.heap.size := fun g hg e => by have := (hown3.out.lt hg).2; omega
          have hwB : w.heap.size ≤ V3.heap.size := hS3.out.hB
          obtain ⟨bw, hbw⟩ : ∃ bw, Hid (V3.heap.size = bw) := ⟨_, Lib.hid rfl⟩
          obtain ⟨V4, hV4, hO4⟩ := nameW (p := fun W => OpAt W V3.heap.size (qV j a) none 0) hO4
          rw [hbw.out] at hO4 hwo hwi hwt hwB
          rw [hV4.out] at hS4 hI4 hown4
          have hg5 := grown_cell V4 bw 3 (.int .i64 (a + 5))
          have hO5 := hO4.setA (a + 5)
          have hS5 := hS4.grown hg5 (fun g hg => by injection hg with hg; subst hg; exact ⟨hwB, hwo⟩) h0
          have hI5 := hI4.block (hg5.block bi hI4.lt (fun e => hwi (by injection e)))
          have hown5 := hown4.same fun g hg => hg5.block g (hown4.lt hg).2 (fun e => hwt g hg (by injection e))
          obtain ⟨V5, hV5, hO5⟩ := nameW (p := fun W => OpAt W bw (qV j (a + 5)) none 0) hO5
          rw [hV5.out] at hS5 hI5 hown5
          have hfr := hO4.free 3
          have hca := hO4.ca
          clear hb4 hS4 hI4 hown4 hg5 hwi hwt
          replace hS5 := Lib.hid hS5
          replace hown5 := Lib.hid hown5
          go_upto_region 27 with (first
            | (rw [hV4.out])
            | (refine wpList_load_row rfl 42 _ rfl bv rfl 42 (opC (qV j a) none 0) (0, 0) _ hO3 Tryd.underlying42 rfl (by kernel_rfl) ?_)
            | (refine wpL_alloc rfl rfl ?_; simp only [Act.put, List.setIfInBounds_toArray, List.set_cons_succ, List.set_cons_zero])
            | (refine wpL_store rfl _ _ rfl (n := qV j a) (gp := none) (gc := 0) (by first | rfl | (simp only [World.size_alloc]; rfl)) rfl ?_; try simp only [Act.put])
            | fail)
          rw [hbw.out]
          go_upto_region 28 with (first | (rw [hV5.out]) | fail)
          clear hO3 hI3 hvo3 hfr hca
          have hox : ∀ T, (∃ z : GrIn V5, T = z.at_) → OpAt T bw (qV j (a + 5)) none 0 := fun T ⟨z, hz⟩ => by rw [hz]; exact hO5.below z.gr (cell_lt hO5.cb)
          replace hox := Lib.hid hox
          refine wp_region_gr_tail 6 (by kernel_rfl) (by kernel_rfl) ?_
          simp only [List.take_succ_cons, List.take_zero, List.drop_succ_cons, List.drop_zero]
          repeat (first
            | (go_big_quiet_want; refine quiet_whole _ rfl rfl hox.out ?_; simp only [Act.put, List.setIfInBounds_toArray, List.set_cons_succ, List.set_cons_zero]; go_big_quiet_on)
            | go_big_quiet_step ((go_at_call 14; rename_i z; refine (Name_any (qV j (a + 5)) none 0 (20 + j) _ hvok2.out.hk (by omega)).mono ?_; rintro e w' ⟨rfl, hbz⟩; exact ⟨rfl, z.on hbz⟩)))
          refine wpQuiet_nil ?_
          rintro T ⟨z, rfl⟩
          have hSz := hS5.out.call z.gr
          have hIz := hI5.below z.gr
          have hownz := hown5.out.below z.gr
          clear hox
          go_wp2_with fail
          refine (Do_w hSz h0 (qV j (a + 5)) none 0 ((qV j (a + 5)).name (20 + j)) (9 + 2 * j + 1) (by omega) hOk3.out hvok2.out ⟨rfl, .nil, fun _ h => (by cases h)⟩ (by simp [qV])).mono ?_
          rintro e V6 ⟨rfl, y6, hS6, hz6, hk6⟩
          rw [q_again q t hl hlt3 a] at hS6
          have hk6i := hk6 bi hIz.lt hou3
          have hI6 := hIz.block hk6i.1
          have hown6 := hownz.same fun g hg => (hk6 g (hownz.lt hg).2 (hoo3.out g hg).1).1
          have hoo6 : ∀ g, Value.ownBlock u21 = some g → g ∉ y6.foot ∧ g ≠ bi := fun g hg => ⟨(hk6 g (hownz.lt hg).2 (hoo3.out g hg).1).2, (hoo3.out g hg).2⟩
          have hOk6 : (sQ q t (voQ (l ++ [a])) false 0).Ok (9 + 2 * (j + 1)) := hOk3.out.mono (by omega)
          have hou6 := hk6i.2
          have hB6 := hS6.hB
          clear hSz hIz hownz hk6 hk6i hS5 hO5 hI5 hown5
          replace hS6 := Lib.hid hS6
          replace hoo6 := Lib.hid hoo6
          replace hOk6 := Lib.hid hOk6
          go_wp2_with (first
            | (at_builtin; refine app_ig rfl _ _ rfl hown6 rfl rfl ⟨by omega, by omega⟩ (by omega) hB6 ?_; intro v7 W7 hown7 hg7 hn7)
            | fail)
          have hS7 := hS6.out.grown hg7 (fun g hg => ⟨(hown6.lt hg).1, (hoo6.out g hg).1⟩) h0
          have hI7 := hI6.block (hg7.block bi hI6.lt (fun e => (hoo6.out bi e.symm).2 rfl))
          have hoo7 : ∀ g, Value.ownBlock v7 = some g → g ∉ y6.foot ∧ g ≠ bi := fun g hg => by
            rcases hn7 g hg with h1 | h1
            · exact hoo6.out g h1
            · exact ⟨hS6.out.high h1, fun e => by have := hI6.lt; omega⟩
          go_roundw
          case rel =>
            refine ⟨j + 1, l ++ [a], y6, by omega, by omega, by go_num, by go_num, by rw [List.length_append, hl]; rfl, fun z hz => ?_, hown7, hoo7, hS7, hI7, hou6, hOk6.out⟩
            rcases List.mem_append.1 hz with hz | hz
            · exact hlb.out z hz
            · rw [List.mem_singleton] at hz; subst hz; exact ⟨by omega, by omega⟩
          case measure => simp [intOf]; omega
        · have hlt2 : Hid ((j : Int) < n ∧ (j : Int) < 3 ∨ True) := Lib.hid (.inr trivial)
          obtain ⟨pt, ct, rfl, hct, hUt, _⟩ := hown.u
          have hj1000 : j ≤ 1000 := by omega
          have hcases : ((decide ((j : Int) < (n : Int)) = true ∧ decide (j < n) = true) ∧ decide ((j : Int) < 3) = false ∧ decide (j < 3) = false) ∨ (decide ((j : Int) < (n : Int)) = false ∧ decide (j < n) = false) := by
            by_cases h : j < n
            · exact .inl ⟨⟨decide_eq_true (by omega), decide_eq_true h⟩, decide_eq_false (by omega), decide_eq_false (by omega)⟩
            · exact .inr ⟨decide_eq_false (by omega), decide_eq_false h⟩
          replace hOk := Lib.hid hOk
          replace hlb := Lib.hid hlb
          clear hlt hoo hown
          rcases hcases with ⟨⟨t1, t2⟩, t3, t4⟩ | ⟨t1, t2⟩
          all_goals
            go_upto_region 31 with fail
            (try clear t3 t4)
            clear t1 t2
            go_wp2_with fail
            refine (Sorted_ref pt j l ct wr hUt hj1000).mono ?_
            rintro e ws ⟨v2, rfl, hown, hbs⟩
            have hSs := hS.call hbs
            have hIs := hI.below hbs
            have hoo : ∀ g, Value.ownBlock v2 = some g → g ∉ y2.foot ∧ g ≠ bi := fun g hg => ⟨hS.high (hown.lt hg).1, fun e => by have := (hown.lt hg).1; have := hI.lt; omega⟩
            replace hown := hown.self w.heap.size hS.hB
            have hzs := hSs.hB
            clear hUt hS hI hbs hct
            replace hSs := Lib.hid hSs
            replace hown := Lib.hid hown
            replace hoo := Lib.hid hoo
            obtain ⟨a2, ha2⟩ : ∃ a, Hid (around at_ 60 = a) := ⟨_, Lib.hid rfl⟩
            have ha2b := around_bd at_ 60 (by decide)
            rw [ha2.out] at ha2b
            obtain ⟨ha20, ha21⟩ := ha2b
            go_upto_if 127 with fail
            go_cut [26, 27] from 128 to 146 (fun lv _ wx => ∃ y3 : Lay, lv = .bool (ob && decide (0 < j) && decide (nthI (sortI l) 0 ≤ a2)) ∧ SitW w.heap.size r w wx y3 (sQ q t (voQ l) ob (if ob = true then a2 else 0)) ∧ OwnI wx w.heap.size v2 j (sortI l) ∧ (∀ g, Value.ownBlock v2 = some g → g ∉ y3.foot ∧ g ≠ bi) ∧ IdAt wx bi qI ∧ bi ∉ y3.foot ∧ (sQ q t (voQ l) ob (if ob = true then a2 else 0)).Ok (10 + 2 * j))
            case first =>
              cases ob with
              | false =>
                go_wp2_with fail
                go_meet
                exact ⟨y2, rfl, hSs.out, hown.out, hoo.out, hIs, hout, hOk.out.mono (by omega)⟩
              | true =>
                go_upto_region 34 with fail
                have hD0 : IdAt ws.drew bi qI := hIs
                have hSd := hSs.out.call (Below.refl _ _).drew
                have hownd := hown.out.below (Below.refl _ _).drew
                obtain ⟨wd, hwd⟩ : ∃ wd, Hid (ws.drew = wd) := ⟨_, Lib.hid rfl⟩
                rw [hwd.out] at hD0 hSd hownd
                replace hSd := Lib.hid hSd
                replace hownd := Lib.hid hownd
                clear hSs hown hIs
                apply wp_post_eq (R := fun T => T = wd.alloc (.cells (opC (qO a2) none 0) 42))
                · refine wp_region_D (D := fun T => IdAt T bi qI) (by kernel_rfl) ?_
                  rw [hwd.out]
                  change wpAnyD _ _ _ _ _ 6 _ _ _
                  refine wpAnyD_take (i := 0) (v := .int .i64 at_) hD0 rfl (by kernel_rfl) (by kernel_rfl) (by kernel_rfl) (fun _ _ _ h => by cases h.1) rfl (fun T _ => rfl) ?_
                  try simp only [Act.put, List.setIfInBounds_toArray, List.set_cons_succ, List.set_cons_zero, List.getElem_toArray, List.getElem_cons_zero]
                  refine wpAnyD_take (i := 2) (v := .agg #[.int .i64 2, .int .i64 9, .int .u64 9]) hD0 rfl (by kernel_rfl) (by kernel_rfl) (by kernel_rfl) (fun _ _ _ h => by cases h.1) rfl (fun T hT => run_loadId hT rfl rfl) ?_
                  try simp only [Act.put, List.setIfInBounds_toArray, List.set_cons_succ, List.set_cons_zero, List.getElem_toArray, List.getElem_cons_succ, List.getElem_cons_zero]
                  refine wpAnyD_two (i := 1) (j := 4) (by kernel_rfl) rfl rfl rfl rfl (fun K hK => ?_) (fun K hK => ?_)
                  · go_simp
                    refine (Around_any at_ 60 _ ha0.1 ha0.2 (by decide) (by decide)).mono ?_
                    rintro e _ ⟨rfl, rfl⟩
                    rw [ha2.out]
                    refine hK _ _ ⟨hD0, ?_⟩
                    clear hK K
                    try simp only [Act.put, List.setIfInBounds_toArray, List.set_cons_succ, List.set_cons_zero, List.getElem_toArray, List.getElem_cons_succ, List.getElem_cons_zero]
                    refine wpAnyD_take (i := 3) (v := .agg (opC (qO a2) none 0)) hD0 rfl (by kernel_rfl) (by kernel_rfl) (by kernel_rfl) (fun _ _ _ h => by cases h.1) rfl (fun T _ => run_buildOp rfl (by kernel_rfl)) ?_
                    try simp only [Act.put, List.setIfInBounds_toArray, List.set_cons_succ, List.set_cons_zero, List.getElem_toArray, List.getElem_cons_succ, List.getElem_cons_zero]
                    refine wpAnyD_one (i := 4) (by kernel_rfl) rfl rfl (fun K hK => ?_)
                    refine wp_allocOp rfl ?_
                    refine hK _ _ ⟨hD0.below (Below.lit _ _), ?_⟩
                    clear hK K
                    try simp only [Act.put, List.setIfInBounds_toArray, List.set_cons_succ, List.set_cons_zero, List.getElem_toArray, List.getElem_cons_succ, List.getElem_cons_zero]
                    refine wpAnyD_one (i := 5) (by kernel_rfl) rfl rfl (fun K hK => ?_)
                    refine wp_storeOp _ _ rfl (n := qO a2) (gp := none) (gc := 0) rfl rfl ?_
                    refine hK _ _ ⟨hD0.below (Below.lit _ _), ?_⟩
                    clear hK K
                    try simp only [Act.put, List.getElem_toArray, List.getElem_cons_succ, List.getElem_cons_zero]
                    exact wpAnyD_done (by kernel_rfl) ⟨rfl, rfl, rfl⟩ _
                  · refine wp_allocOp rfl ?_
                    try simp only [Act.put, List.setIfInBounds_toArray, List.set_cons_succ, List.set_cons_zero, List.getElem_toArray, List.getElem_cons_succ, List.getElem_cons_zero]
                    refine hK _ _ ⟨hD0.below (Below.lit _ _), ?_⟩
                    clear hK K
                    try simp only [Act.put, List.setIfInBounds_toArray, List.set_cons_succ, List.set_cons_zero, List.getElem_toArray, List.getElem_cons_succ, List.getElem_cons_zero]
                    refine wpAnyD_one (i := 1) (by kernel_rfl) rfl rfl (fun K hK => ?_)
                    go_simp
                    refine (Around_any at_ 60 _ ha0.1 ha0.2 (by decide) (by decide)).mono ?_
                    rintro e _ ⟨rfl, rfl⟩
                    rw [ha2.out]
                    refine hK _ _ ⟨hD0.below (Below.lit _ _), ?_⟩
                    clear hK K
                    try simp only [Act.put, List.setIfInBounds_toArray, List.set_cons_succ, List.set_cons_zero, List.getElem_toArray, List.getElem_cons_succ, List.getElem_cons_zero]
                    refine wpAnyD_take (i := 3) (v := .agg (opC (qO a2) none 0)) (hD0.below (Below.lit _ _)) rfl (by kernel_rfl) (by kernel_rfl) (by kernel_rfl) (fun _ _ _ h => by cases h.1) rfl (fun T _ => run_buildOp rfl (by kernel_rfl)) ?_
                    try simp only [Act.put, List.setIfInBounds_toArray, List.set_cons_succ, List.set_cons_zero, List.getElem_toArray, List.getElem_cons_succ, List.getElem_cons_zero]
                    refine wpAnyD_one (i := 5) (by kernel_rfl) rfl rfl (fun K hK => ?_)
                    refine wp_storeOp _ _ rfl (n := qO a2) (gp := none) (gc := 0) rfl rfl ?_
                    refine hK _ _ ⟨hD0.below (Below.lit _ _), ?_⟩
                    clear hK K
                    try simp only [Act.put, List.getElem_toArray, List.getElem_cons_succ, List.getElem_cons_zero]
                    exact wpAnyD_done (by kernel_rfl) ⟨rfl, rfl, rfl⟩ _
                rintro T rfl

                have hOo := OpAt.made wd (qO a2) none 0
                have hbo := Below.lit wd (.cells (opC (qO a2) none 0) 42)
                have hSo := hSd.out.call hbo
                have hIo := hD0.below hbo
                have howno := hownd.out.below hbo
                have hoo1 : wd.heap.size ∉ y2.foot := hSd.out.high (Nat.le_refl _)
                have hook : (qO a2).Ok := qO_ok ⟨by omega, by omega⟩
                obtain ⟨bo, hbo2⟩ : ∃ bo, Hid (wd.heap.size = bo) := ⟨_, Lib.hid rfl⟩
                obtain ⟨wo, hwo, hOo⟩ := nameW (p := fun W => OpAt W wd.heap.size (qO a2) none 0) hOo
                have hzd : (ws.drew).heap.size = wd.heap.size := by rw [hwd.out]
                rw [hbo2.out] at hOo hoo1
                rw [hwo.out] at hSo hIo howno
                rw [hwo.out]
                rw [hbo2.out]
                replace hSo := Lib.hid hSo
                replace howno := Lib.hid howno
                replace hook := Lib.hid hook
                clear hSd hownd hD0 hbo
                change Exit.then _ _ _ _ wo
                go_wp2_with fail
                have hox : ∀ T, (∃ z : GrIn wo, T = z.at_) → OpAt T bo (qO a2) none 0 := fun T ⟨z, hz⟩ => by rw [hz]; exact hOo.below z.gr (cell_lt hOo.cb)
                replace hox := Lib.hid hox
                refine wp_region_gr_tail 4 (by kernel_rfl) (by kernel_rfl) ?_
                simp only [List.take_succ_cons, List.take_zero, List.drop_succ_cons, List.drop_zero]
                repeat (first
                  | (go_big_quiet_want; refine quiet_whole _ rfl rfl hox.out ?_; simp only [Act.put, List.setIfInBounds_toArray, List.set_cons_succ, List.set_cons_zero]; go_big_quiet_on)
                  | go_big_quiet_step ((go_at_call 14; rename_i z; refine (Name_any (qO a2) none 0 40 _ hook.out.hk (by decide)).mono ?_; rintro e w' ⟨rfl, hbz⟩; exact ⟨rfl, z.on hbz⟩)))
                refine wpQuiet_nil ?_
                rintro T ⟨z, rfl⟩
                have hSz := hSo.out.call z.gr
                have hOz := hOo.below z.gr (cell_lt hOo.cb)
                have hIz := hIo.below z.gr
                have hownz := howno.out.below z.gr
                clear hox
                go_wp2_with fail
                refine (Do_w hSz h0 (qO a2) none 0 ((qO a2).name 40) (9 + 2 * j) (by omega) hOk.out hook.out ⟨rfl, .nil, fun _ h => (by cases h)⟩ (by simp [qO])).mono ?_
                rintro e V3 ⟨rfl, y3, hS3, hz3, hk3⟩
                rw [q_object q t (voQ l) a2 _ ha20] at hS3
                have hO3 := hOz.keep hk3 hoo1
                have hk3i := hk3 bi hIz.lt hout
                have hI3 := hIz.block hk3i.1
                have hown3 := hownz.same fun g hg => (hk3 g (hownz.lt hg).2 (hoo.out g hg).1).1
                have hoo3 : ∀ g, Value.ownBlock v2 = some g → g ∉ y3.foot ∧ g ≠ bi := fun g hg => ⟨(hk3 g (hownz.lt hg).2 (hoo.out g hg).1).2, (hoo.out g hg).2⟩
                have hOk3 : (sQ q t (voQ l) true a2).Ok (10 + 2 * j) := by
                  rw [← q_object q t (voQ l) a2 ((qO a2).name 40) ha20]
                  exact act_ok hOk.out hook.out _ (by omega) (by simp [qO])
                have hou3 := hk3i.2
                have hca := hO3.ca
                clear hSz hOz hIz hownz hk3 hk3i hSo hOo hIo howno hO3
                replace hS3 := Lib.hid hS3
                replace hoo3 := Lib.hid hoo3
                replace hOk3 := Lib.hid hOk3
                have hdone : ∀ T, Below V3.heap.size V3 T → ∀ lv : Bool, lv = (true && decide (0 < j) && decide (nthI (sortI l) 0 ≤ a2)) → ∃ y3 : Lay, Value.bool lv = .bool (true && decide (0 < j) && decide (nthI (sortI l) 0 ≤ a2)) ∧ SitW w.heap.size r w T y3 (sQ q t (voQ l) true (if true = true then a2 else 0)) ∧ OwnI T w.heap.size v2 j (sortI l) ∧ (∀ g, Value.ownBlock v2 = some g → g ∉ y3.foot ∧ g ≠ bi) ∧ IdAt T bi qI ∧ bi ∉ y3.foot ∧ (sQ q t (voQ l) true (if true = true then a2 else 0)).Ok (10 + 2 * j) :=
                  fun T hb lv hlv => ⟨y3, by rw [hlv], hS3.out.call hb, hown3.below hb, hoo3.out, hI3.below hb, hou3, hOk3.out⟩
                replace hdone := Lib.hid hdone
                by_cases hj0 : j = 0
                · subst hj0
                  go_wp2_with fail
                  go_quiet (fail)
                  go_wp2_with fail
                  go_meet
                  exact hdone.out _ (belowN (Below.refl _ _) nq) _ rfl
                · have hj1 : 0 < j := by omega
                  obtain ⟨p2, c2, rfl, hc2, hU2, _⟩ := hown3.u
                  obtain ⟨b2, off2, rfl, _, hcc, hx0, hx1⟩ := hU2.look hj1
                  obtain ⟨m0, hm0⟩ : ∃ m0, Hid (nthI (sortI l) 0 = m0) := ⟨_, Lib.hid rfl⟩
                  replace hcc : V3.cell? ⟨b2, off2 + 0, none⟩ = some (.int .i64 m0) := by rw [← hm0.out]; exact hcc
                  have hcc2 : V3.cell? ⟨b2, off2, none⟩ = some (.int .i64 m0) := hcc
                  have tj1 : decide ((j : Int) > 0) = true := decide_eq_true (by omega)
                  have tj2 : decide (0 < (j : Int)) = true := decide_eq_true (by omega)
                  have tj3 : decide (0 < j) = true := decide_eq_true hj1
                  have hjI : (0 : Int) < (j : Int) := by omega
                  go_wp2_with fail
                  go_quiet (fail)
                  go_wp2_with fail
                  go_meet
                  exact hdone.out _ (belowN (Below.refl _ _) nq) _ (by rw [hm0.out, tj3]; simp; exact Iff.rfl)
            case rest =>
              obtain ⟨y3, rfl, hSs, hown, hoo, hIs, hout, hOk⟩ := hcut
              obtain ⟨wx, rfl⟩ : ∃ wx : World, wx = wc := ⟨_, rfl⟩
              obtain ⟨la, hla⟩ : ∃ la, Hid ((if ob = true then a2 else 0) = la) := ⟨_, Lib.hid rfl⟩
              rw [hla.out] at hSs hOk
              obtain ⟨a3, ha3⟩ : ∃ a, Hid (around when_ 90 = a) := ⟨_, Lib.hid rfl⟩
              have ha3b := around_bd when_ 90 (by decide)
              rw [ha3.out] at ha3b
              obtain ⟨ha30, ha31⟩ := ha3b
              have hD0 : IdAt wx.drew bi qI := hIs
              have hSd := hSs.call (Below.refl _ _).drew
              have hownd := hown.below (Below.refl _ _).drew
              obtain ⟨wd, hwd⟩ : ∃ wd, Hid (wx.drew = wd) := ⟨_, Lib.hid rfl⟩
              rw [hwd.out] at hD0 hSd hownd
              replace hSd := Lib.hid hSd
              replace hownd := Lib.hid hownd
              replace hoo := Lib.hid hoo
              replace hOk := Lib.hid hOk
              clear hSs hown hIs
              go_upto_region 37 with fail
              apply wp_post_eq (R := fun T => T = wd.alloc (.cells (opC (qX a3) none 0) 42))
              · refine wp_region_D (D := fun T => IdAt T bi qI) (by kernel_rfl) ?_
                rw [hwd.out]
                change wpAnyD _ _ _ _ _ 6 _ _ _
                refine wpAnyD_take (i := 0) (v := .int .i64 when_) hD0 rfl (by kernel_rfl) (by kernel_rfl) (by kernel_rfl) (fun _ _ _ h => by cases h.1) rfl (fun T _ => rfl) ?_
                simp only [Act.put, List.setIfInBounds_toArray, List.set_cons_succ, List.set_cons_zero, List.getElem_toArray, List.getElem_cons_zero]
                refine wpAnyD_take (i := 2) (v := .agg #[.int .i64 2, .int .i64 9, .int .u64 9]) hD0 rfl (by kernel_rfl) (by kernel_rfl) (by kernel_rfl) (fun _ _ _ h => by cases h.1) rfl (fun T hT => run_loadId hT rfl rfl) ?_
                try simp only [Act.put, List.setIfInBounds_toArray, List.set_cons_succ, List.set_cons_zero, List.getElem_toArray, List.getElem_cons_succ, List.getElem_cons_zero]
                refine wpAnyD_two (i := 1) (j := 4) (by kernel_rfl) rfl rfl rfl rfl (fun K hK => ?_) (fun K hK => ?_)
                · go_simp
                  refine (Around_any when_ 90 _ he0.1 he0.2 (by decide) (by decide)).mono ?_
                  rintro e _ ⟨rfl, rfl⟩
                  rw [ha3.out]
                  refine hK _ _ ⟨hD0, ?_⟩
                  clear hK K
                  try simp only [Act.put, List.setIfInBounds_toArray, List.set_cons_succ, List.set_cons_zero, List.getElem_toArray, List.getElem_cons_succ, List.getElem_cons_zero]
                  refine wpAnyD_take (i := 3) (v := .agg (opC (qX a3) none 0)) hD0 rfl (by kernel_rfl) (by kernel_rfl) (by kernel_rfl) (fun _ _ _ h => by cases h.1) rfl (fun T _ => run_buildOp rfl (by kernel_rfl)) ?_
                  try simp only [Act.put, List.setIfInBounds_toArray, List.set_cons_succ, List.set_cons_zero, List.getElem_toArray, List.getElem_cons_succ, List.getElem_cons_zero]
                  refine wpAnyD_one (i := 4) (by kernel_rfl) rfl rfl (fun K hK => ?_)
                  refine wp_allocOp rfl ?_
                  refine hK _ _ ⟨hD0.below (Below.lit _ _), ?_⟩
                  clear hK K
                  try simp only [Act.put, List.setIfInBounds_toArray, List.set_cons_succ, List.set_cons_zero, List.getElem_toArray, List.getElem_cons_succ, List.getElem_cons_zero]
                  refine wpAnyD_one (i := 5) (by kernel_rfl) rfl rfl (fun K hK => ?_)
                  refine wp_storeOp _ _ rfl (n := qX a3) (gp := none) (gc := 0) rfl rfl ?_
                  refine hK _ _ ⟨hD0.below (Below.lit _ _), ?_⟩
                  clear hK K
                  try simp only [Act.put, List.getElem_toArray, List.getElem_cons_succ, List.getElem_cons_zero]
                  exact wpAnyD_done (by kernel_rfl) ⟨rfl, rfl, rfl⟩ _
                · refine wp_allocOp rfl ?_
                  try simp only [Act.put, List.setIfInBounds_toArray, List.set_cons_succ, List.set_cons_zero, List.getElem_toArray, List.getElem_cons_succ, List.getElem_cons_zero]
                  refine hK _ _ ⟨hD0.below (Below.lit _ _), ?_⟩
                  clear hK K
                  try simp only [Act.put, List.setIfInBounds_toArray, List.set_cons_succ, List.set_cons_zero, List.getElem_toArray, List.getElem_cons_succ, List.getElem_cons_zero]
                  refine wpAnyD_one (i := 1) (by kernel_rfl) rfl rfl (fun K hK => ?_)
                  go_simp
                  refine (Around_any when_ 90 _ he0.1 he0.2 (by decide) (by decide)).mono ?_
                  rintro e _ ⟨rfl, rfl⟩
                  rw [ha3.out]
                  refine hK _ _ ⟨hD0.below (Below.lit _ _), ?_⟩
                  clear hK K
                  try simp only [Act.put, List.setIfInBounds_toArray, List.set_cons_succ, List.set_cons_zero, List.getElem_toArray, List.getElem_cons_succ, List.getElem_cons_zero]
                  refine wpAnyD_take (i := 3) (v := .agg (opC (qX a3) none 0)) (hD0.below (Below.lit _ _)) rfl (by kernel_rfl) (by kernel_rfl) (by kernel_rfl) (fun _ _ _ h => by cases h.1) rfl (fun T _ => run_buildOp rfl (by kernel_rfl)) ?_
                  try simp only [Act.put, List.setIfInBounds_toArray, List.set_cons_succ, List.set_cons_zero, List.getElem_toArray, List.getElem_cons_succ, List.getElem_cons_zero]
                  refine wpAnyD_one (i := 5) (by kernel_rfl) rfl rfl (fun K hK => ?_)
                  refine wp_storeOp _ _ rfl (n := qX a3) (gp := none) (gc := 0) rfl rfl ?_
                  refine hK _ _ ⟨hD0.below (Below.lit _ _), ?_⟩
                  clear hK K
                  try simp only [Act.put, List.getElem_toArray, List.getElem_cons_succ, List.getElem_cons_zero]
                  exact wpAnyD_done (by kernel_rfl) ⟨rfl, rfl, rfl⟩ _
              rintro T rfl

              have hOo := OpAt.made wd (qX a3) none 0
              have hbo := Below.lit wd (.cells (opC (qX a3) none 0) 42)
              have hSo := hSd.out.call hbo
              have howno := hownd.out.below hbo
              have hook : (qX a3).Ok := qX_ok ⟨by omega, by omega⟩
              obtain ⟨bo, hbo2⟩ : ∃ bo, Hid (wd.heap.size = bo) := ⟨_, Lib.hid rfl⟩
              obtain ⟨wo, hwo, hOo⟩ := nameW (p := fun W => OpAt W wd.heap.size (qX a3) none 0) hOo
              rw [hbo2.out] at hOo
              rw [hwo.out] at hSo howno
              rw [hwo.out]
              rw [hbo2.out]
              replace hSo := Lib.hid hSo
              replace howno := Lib.hid howno
              replace hook := Lib.hid hook
              clear hSd hownd hD0 hbo
              change Exit.then _ _ _ _ wo
              obtain ⟨late, hlate⟩ : ∃ late, Hid ((ob && decide (0 < j) && decide (nthI (sortI l) 0 ≤ a2)) = late) := ⟨_, Lib.hid rfl⟩
              rw [hlate.out]
              obtain ⟨wt, hwt⟩ : ∃ wt, Hid (wantQ q t l ob la a3 = wt) := ⟨_, Lib.hid rfl⟩
              go_upto_if 153 with fail
              have hwtd : wantQ q t l ob la a3 = if (j : Int) < q then 26 else if ob = true ∧ nthI (sortI l) 0 ≤ la then 28 else if a3 < nthI (sortI l) (q - 1).toNat + t then 27 else 0 := by rw [← hl]; rfl
              have hlate2 : 0 < j → (late = true ↔ (ob = true ∧ nthI (sortI l) 0 ≤ la)) := by
                intro hj
                rw [← hlate.out, ← hla.out]
                cases ob <;> simp [hj]
              rw [hwt.out] at hwtd
              replace hwtd := Lib.hid hwtd
              replace hlate2 := Lib.hid hlate2
              replace hlate := Lib.hid hlate.out
              go_cut [29] from 151 to 164 (fun v T => v = .int .i64 wt ∧ Below wo.heap.size wo T)
              case first =>
                by_cases c1 : (j : Int) < q
                · have d1 : decide ((j : Int) < q) = true := decide_eq_true c1
                  have hw26 : Hid (wt = 26) := Lib.hid (by rw [hwtd.out, if_pos c1])
                  go_wp2_with fail
                  go_meet
                  exact ⟨by rw [hw26.out], Below.refl _ _⟩
                · have d1 : decide ((j : Int) < q) = false := decide_eq_false c1
                  have hj1 : 0 < j := by omega
                  cases late with
                  | true =>
                    have hw28 : Hid (wt = 28) := Lib.hid (by rw [hwtd.out, if_neg c1, if_pos ((hlate2.out hj1).1 rfl)])
                    go_wp2_with fail
                    go_meet
                    exact ⟨by rw [hw28.out], Below.refl _ _⟩
                  | false =>
                    have hno : ¬ (ob = true ∧ nthI (sortI l) 0 ≤ la) := fun h => by have := (hlate2.out hj1).2 h; cases this
                    obtain ⟨un, hun⟩ : ∃ un : Nat, q = (un : Int) + 1 := ⟨(q - 1).toNat, by omega⟩
                    have hqn : (q - 1).toNat = un := by omega
                    have hunj : un < j := by omega
                    obtain ⟨m1, hm1⟩ : ∃ m, Hid (nthI (sortI l) un = m) := ⟨_, Lib.hid rfl⟩
                    have hm1b : 0 ≤ m1 ∧ m1 < 50 := by
                      rw [← hm1.out]
                      have hlen : un < (sortI l).length := by rw [sortI_len, hl]; exact hunj
                      have : nthI (sortI l) un ∈ sortI l := by
                        unfold nthI
                        rw [List.getD_eq_getElem?_getD, List.getElem?_eq_getElem hlen]
                        exact List.getElem_mem hlen
                      exact hlb.out _ ((sortI_perm l).mem_iff.1 this)
                    obtain ⟨hm10, hm11⟩ := hm1b
                    obtain ⟨p2, c2, rfl, hc2, hU2, _⟩ := howno.out.u
                    obtain ⟨b2, off2, rfl, _, hcc, hx0, hx1⟩ := hU2.look hunj
                    replace hcc : wo.cell? ⟨b2, off2 + un, none⟩ = some (.int .i64 m1) := by rw [← hm1.out]; exact hcc
                    have hq1n : q - 1 = (un : Int) := by omega
                    have hunI : (un : Int) < (j : Int) := by omega
                    have hca : wo.cell? ⟨bo, 3, none⟩ = some (.int .i64 a3) := hOo.ca
                    have hun0 : (0 : Int) ≤ (un : Int) := by omega
                    by_cases c3 : a3 < m1 + t
                    · have d3 : decide (a3 < m1 + t) = true := decide_eq_true c3
                      have hw27 : Hid (wt = 27) := Lib.hid (by rw [hwtd.out, if_neg c1, if_neg hno, hqn, hm1.out, if_pos c3])
                      clear hno hqn hun c1
                      go_wp2_with fail
                      go_quiet (fail)
                      go_wp2_with fail
                      go_meet
                      exact ⟨by rw [hw27.out], belowN (Below.refl _ _) nq⟩
                    · have d3 : decide (a3 < m1 + t) = false := decide_eq_false c3
                      have hw0 : Hid (wt = 0) := Lib.hid (by rw [hwtd.out, if_neg c1, if_neg hno, hqn, hm1.out, if_neg c3])
                      clear hno hqn hun c1
                      go_wp2_with fail
                      go_quiet (fail)
                      go_wp2_with fail
                      go_meet
                      exact ⟨by rw [hw0.out], belowN (Below.refl _ _) nq⟩
              case rest =>
                obtain ⟨rfl, hbt⟩ := hcut
                obtain ⟨wx5, rfl⟩ : ∃ wx : World, wx = wc := ⟨_, rfl⟩
                have hS5 := hSo.out.call hbt
                have hO5 := hOo.below hbt (cell_lt hOo.cb)
                clear hSo hOo howno hlate hlate2 hwtd hbt
                replace hS5 := Lib.hid hS5
                have hox : ∀ T, (∃ z : GrIn wx5, T = z.at_) → OpAt T bo (qX a3) none 0 := fun T ⟨z, hz⟩ => by rw [hz]; exact hO5.below z.gr (cell_lt hO5.cb)
                replace hox := Lib.hid hox
                have hval : RS.may (sQ q t (voQ l) ob la) (qX a3) = wt := by rw [q_may_replace q t (by omega) ob la a3, hwt.out]
                replace hval := Lib.hid hval
                have hne : (wt != wt) = false := bne_self_eq_false _
                go_upto_region 45 with fail
                refine wp_region_gr (by kernel_rfl) (by kernel_rfl) ?_
                repeat (first
                  | (go_big_quiet_want; refine quiet_whole _ rfl rfl hox.out ?_; simp only [Act.put, List.setIfInBounds_toArray, List.set_cons_succ, List.set_cons_zero]; go_big_quiet_on)
                  | go_big_quiet_step (first
                    | (go_at_call 14; rename_i z; refine (Name_any (qX a3) none 0 41 _ hook.out.hk (by decide)).mono ?_; rintro e w' ⟨rfl, hbz⟩; exact ⟨rfl, z.on hbz⟩)
                    | (go_at_call 16; rename_i z; refine (May_w (hS5.out.call z.gr) (qX a3) none 0 ((qX a3).name 41) (10 + 2 * j) (by omega) hOk.out hook.out ⟨rfl, .nil, fun _ h => (by cases h)⟩).mono ?_; rintro e w' ⟨rfl, hbz⟩; rw [hval.out]; exact ⟨rfl, z.on hbz⟩)))
                refine wpQuiet_nil ?_
                intro V2 hw10'
                obtain ⟨⟨_, hw_V2⟩, rfl⟩ := hw10'
                have hS6 := hS5.out.call hw_V2
                have hO6 := hO5.below hw_V2 (cell_lt hO5.cb)
                change Exit.then _ _ _ _ V2
                clear hox hval hS5 hO5
                replace hS6 := Lib.hid hS6
                go_wp2_with fail
                have hox : ∀ T, (∃ z : GrIn V2, T = z.at_) → OpAt T bo (qX a3) none 0 := fun T ⟨z, hz⟩ => by rw [hz]; exact hO6.below z.gr (cell_lt hO6.cb)
                replace hox := Lib.hid hox
                refine wp_region_gr_tail 4 (by kernel_rfl) (by kernel_rfl) ?_
                simp only [List.take_succ_cons, List.take_zero, List.drop_succ_cons, List.drop_zero]
                repeat (first
                  | (go_big_quiet_want; refine quiet_whole _ rfl rfl hox.out ?_; simp only [Act.put, List.setIfInBounds_toArray, List.set_cons_succ, List.set_cons_zero]; go_big_quiet_on)
                  | go_big_quiet_step ((go_at_call 14; rename_i z; refine (Name_any (qX a3) none 0 41 _ hook.out.hk (by decide)).mono ?_; rintro e w' ⟨rfl, hbz⟩; exact ⟨rfl, z.on hbz⟩)))
                refine wpQuiet_nil ?_
                rintro T ⟨z, rfl⟩
                have hSz := hS6.out.call z.gr
                clear hox hO6
                go_wp2_with fail
                refine (Do_w hSz h0 (qX a3) none 0 ((qX a3).name 41) (10 + 2 * j) (by omega) hOk.out hook.out ⟨rfl, .nil, fun _ h => (by cases h)⟩ (by simp [qX])).mono ?_
                rintro e V3 ⟨rfl, y4, hS7, hz7, hk7⟩
                rw [q_replace q t (voQ l) ob la a3] at hS7
                clear hSz hk7 hS6
                replace hS7 := Lib.hid hS7
                have e5 : RS.inB (sX q t (voQ l) ob la) 5 = true := rfl
                have e2 : RS.inB (sX q t (voQ l) ob la) 2 = false := rfl
                have e3 : RS.role (sX q t (voQ l) ob la) 2 = 3 := rfl
                go_wp2_with fail
                refine (Has_w hS7.out 5 (by unfold i64ok; omega)).mono ?_
                rintro e _ ⟨rfl, rfl⟩
                rw [e5]
                go_wp2_with fail
                refine (Has_w hS7.out 2 (by unfold i64ok; omega)).mono ?_
                rintro e _ ⟨rfl, rfl⟩
                rw [e2]
                go_wp2_with fail
                refine (Role_w hS7.out 2 (by unfold i64ok; omega)).mono ?_
                rintro e _ ⟨rfl, rfl⟩
                rw [e3]
                go_wp2_with fail
                refine (lives_any _ hS7.out.asks).mono ?_
                rintro e w8 ⟨rfl, hb8⟩
                go_wp2_with fail
                go_ret
                exact ⟨rfl, hS7.out.below.trans (hb8.mono hS7.out.hB)⟩
end Go.Proofs.YtkolilbebkkpdaaDoor
