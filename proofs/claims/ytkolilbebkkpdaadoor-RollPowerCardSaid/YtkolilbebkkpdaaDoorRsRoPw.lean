/-
  RollPower: the walk.
-/
import Derived.Test.YtkolilbebkkpdaaDoorRmH
import Derived.Test.YtkolilbebkkpdaaDoorRsRoCq
import Derived.Test.YtkolilbebkkpdaaDoorRsRoPp
namespace Go.Proofs.YtkolilbebkkpdaaDoor
open Go.RowKit Go.Maps Go.BigFrame
attribute [local go_sem] in_gr

theorem opK_b {K b s a k1 k2 k3 : Int} {of : Idn} (hb : 1 ≤ b ∧ b ≤ 7) (_h1 : 0 ≤ k1) : 1 ≤ (opK K b s a k1 k2 k3 of).b ∧ (opK K b s a k1 k2 k3 of).b ≤ 7 := by
  unfold opK
  repeat (first | exact hb | (show 1 ≤ 1 + k1 % 3 ∧ 1 + k1 % 3 ≤ 7; omega) | split)
theorem opN_b (xs : List Int) (l : List OpI) : 1 ≤ (opN xs l).b ∧ (opN xs l).b ≤ 7 := by
  have b1 := kN_bd xs 1
  exact opK_b (by omega) b1.1
theorem opsN_b (xs : List Int) : ∀ i, ∀ o ∈ opsN xs i, 1 ≤ o.b ∧ o.b ≤ 7 := by
  intro i
  induction i with
  | zero =>
    intro o ho
    simp only [opsN, List.mem_cons, List.not_mem_nil, or_false] at ho
    rcases ho with rfl | rfl | rfl <;> decide
  | succ i ih =>
    intro o ho
    unfold opsN at ho
    split at ho
    · rcases List.mem_append.1 ho with ho | ho
      · exact ih o ho
      · rw [List.mem_singleton] at ho; subst ho; exact opN_b _ _
    · exact ih o ho
theorem madeN_false (l : List OpI) (i : Nat) : madeN l false (i + 1) = if (madeN l false i).may (l.getD i opZ) = 0 then (madeN l false i).act (l.getD i opZ) ((l.getD i opZ).name i) else madeN l false i := by
  show (if false = true ∨ (madeN l false i).may (l.getD i opZ) = 0 then _ else _) = _
  by_cases h : (madeN l false i).may (l.getD i opZ) = 0
  · rw [if_pos (.inr h), if_pos h]
  · rw [if_neg (fun e => e.elim (fun e => by cases e) h), if_neg h]
set_option maxRecDepth 100000 in
set_option maxHeartbeats 8000000 in
theorem power_any (w : World) (hA : Asks w) (p : Option Addr) (n : Nat) (xs : List Int) (c : Nat) (hU : UI w p n xs) (hc : n ≤ c) :
    Calls Tryd.prog 7 #[.slice p n c] w fun e w' => e = .returned (.bool true) ∧ Below w.heap.size w w' := by
  have h0 : 0 < w.heap.size := cell_lt hA.a0
  go_enter Tryd.func7, Tryd.ntmps7
  go_wp2_with fail
  refine (Cards_any _).mono ?_
  rintro e w1 ⟨v, rfl, hown, hb1⟩
  obtain ⟨p1, c1, rfl, hc1, hRd, _⟩ := hown.u
  go_wp2_with fail
  refine (New_any _ p1 c1 hRd).mono ?_
  rintro e w2 ⟨y, rfl, hR2, hb2, hf2⟩
  have hB2 := hb1.trans (hb2.mono hb1.size)
  obtain ⟨r, hr⟩ : ∃ r, Hid (y.r = r) := ⟨_, Lib.hid rfl⟩
  have hS2 : SitW w.heap.size r w w2 y RS.new := ⟨hR2, hr.out, fun i hi => Nat.le_trans hb1.size (hf2 i hi), hB2, hA.below hB2, hB2.size⟩
  rw [hr.out]
  clear hown hRd hc1 hR2 hf2
  go_wp2_with fail
  refine (Cards_any _).mono ?_
  rintro e w3 ⟨v, rfl, hown, hb3⟩
  obtain ⟨pc, cc, rfl, hcc, hRc, hfc, _⟩ := hown.u
  have hS3 := hS2.call hb3
  have hco : ∀ a, pc = some a → a.block ∉ y.foot := fun a ha => hS2.high (hfc a ha)
  go_wp2_with fail
  refine (Ops_any w3 p n xs c ((hU.below hB2).below hb3) hc).mono ?_
  rintro e w4 ⟨v, L, rfl, hG, hL, hb4⟩
  obtain ⟨q, d, rfl, hd, hRd, hfq, _, _⟩ := hG.own.u
  have hS4 := hS3.call hb4
  have hRc4 := hRc.below hb4
  have hqo : ∀ a, q = some a → a.block ∉ y.foot := fun a ha => hS3.high (hfq a ha)
  have hgo : ∀ x ∈ L, ∀ a, x.2.1 = some a → a.block ∉ y.foot := fun x hx a ha => hS3.high (((hG.gs x hx).2 a ha).1)
  have hug : ∀ x ∈ L, UI w4 x.2.1 x.1.gs.length x.1.gs := fun x hx => (hG.gs x hx).1
  have hgood := opsN_good xs 21 (by omega)
  have hobs := opsN_b xs 21
  rw [← hL] at hgood hobs
  have hLl : L.length ≤ 900 := by have := opsN_len xs 21; rw [← hL, List.length_map] at this; omega
  clear hown hG hb1 hb2 hb3 hb4 hS2 hS3 hRc hfc hfq
  replace hco := Lib.hid hco
  replace hqo := Lib.hid hqo
  replace hgo := Lib.hid hgo
  replace hug := Lib.hid hug
  replace hgood := Lib.hid hgood
  replace hobs := Lib.hid hobs
  replace hRd := Lib.hid hRd
  replace hRc4 := Lib.hid hRc4
  replace hL := Lib.hid hL
  go_wp2_with fail
  go_loopw [6] (fun i wr => ∃ (j : Nat) (yk : Lay), j ≤ L.length ∧ i = .int .i64 j ∧ SitW w.heap.size r w wr yk (madeN (L.map Prod.fst) false j) ∧ Hid (Keeps w4 wr y yk ∧ w4.heap.size ≤ wr.heap.size)) (fun i _ => L.length - (intOf i).toNat)
  case atStart => exact ⟨0, y, Nat.zero_le _, rfl, hS4, Lib.hid ⟨Keeps.refl _ _, Nat.le_refl _⟩⟩
  case round =>
    obtain ⟨j, yk, hj, rfl, hS, hKp⟩ := hrel
    by_cases hlt : j < L.length
    · obtain ⟨x, hx⟩ : ∃ x, Hid (L[j] = x) := ⟨_, Lib.hid rfl⟩
      have hxm : x ∈ L := hx.out ▸ List.getElem_mem hlt
      obtain ⟨bq, oq, hqe, hbql, hcq⟩ := (hRd.out.keeps hKp.out.1 hKp.out.2 hqo.out).op hlt
      subst hqe
      rw [hx.out] at hcq
      have hmm : x.1 ∈ L.map Prod.fst := List.mem_map.2 ⟨x, hxm, rfl⟩
      have hxg := hgood.out x.1 hmm
      have hxb := hobs.out x.1 hmm
      have hxu := (hug.out x hxm).keeps hKp.out.1 (hgo.out x hxm)
      have hxd : (L.map Prod.fst).getD j opZ = x.1 := by
        rw [List.getD_eq_getElem?_getD, List.getElem?_map, List.getElem?_eq_getElem hlt, hx.out]; rfl
      have hOk := madeN_ok (l := L.map Prod.fst) hgood.out false j (by rw [List.length_map]; exact hj)
      have hJ := J_made (L.map Prod.fst) false j
      have hst : madeN (L.map Prod.fst) false (j + 1) = if (madeN (L.map Prod.fst) false j).may x.1 = 0 then (madeN (L.map Prod.fst) false j).act x.1 (x.1.name j) else madeN (L.map Prod.fst) false j := by
        rw [← hxd]; exact madeN_false _ _
      obtain ⟨s, hs⟩ : ∃ s, Hid (madeN (L.map Prod.fst) false j = s) := ⟨_, Lib.hid rfl⟩
      rw [hs.out] at hst hOk hS hJ
      obtain ⟨o, gp, gc⟩ := x
      replace hcq : ∀ i u, (opC o gp gc)[i]? = some u → wr.cell? ⟨bq, oq + j * 27 + i, none⟩ = some u := hcq
      replace hxg : o.Good := hxg
      replace hxb : 1 ≤ o.b ∧ o.b ≤ 7 := hxb
      replace hxu : UI wr gp o.gs.length o.gs := hxu
      replace hst : madeN (L.map Prod.fst) false (j + 1) = if s.may o = 0 then s.act o (o.name j) else s := hst
      have hix1 : (0 : Int) ≤ (j : Int) := by omega
      have hix2 : (j : Int) < (L.length : Int) := by omega
      have hRck := hRc4.out.keeps hKp.out.1 hKp.out.2 hco.out
      have hcok : ∀ a, pc = some a → a.block ∉ yk.foot ∧ a.block < wr.heap.size := fun a ha => by
        obtain ⟨b0, off0, he0, hl0, _⟩ := hRc4.out 0 (by decide)
        rw [he0] at ha
        injection ha with ha
        subst ha
        exact ⟨(hKp.out.1 _ hl0 (hco.out _ he0)).2, Nat.lt_of_lt_of_le hl0 hKp.out.2⟩
      have hO4 := OpAt.made wr o gp gc
      have hb4 := Below.lit wr (.cells (opC o gp gc) 42)
      have hS4 := hS.call hb4
      have hbo1 : wr.heap.size ∉ yk.foot := hS.high (Nat.le_refl _)
      have hxu4 := hxu.below hb4
      have hRc5 := hRck.below hb4
      obtain ⟨bo, hbo⟩ : ∃ bo, Hid (wr.heap.size = bo) := ⟨_, Lib.hid rfl⟩
      obtain ⟨wo, hwo, hO4⟩ := nameW (p := fun W => OpAt W wr.heap.size o gp gc) hO4
      rw [hbo.out] at hO4 hbo1
      rw [hwo.out] at hS4 hxu4 hb4 hRc5
      replace hb4 := Lib.hid hb4
      replace hS := Lib.hid hS
      replace hS4 := Lib.hid hS4
      replace hxu4 := Lib.hid hxu4
      replace hRck := Lib.hid hRck
      replace hRc5 := Lib.hid hRc5
      replace hcok := Lib.hid hcok
      replace hcq := Lib.hid hcq
      replace hxg := Lib.hid hxg
      replace hxb := Lib.hid hxb
      replace hst := Lib.hid hst
      replace hOk := Lib.hid hOk
      replace hJ := Lib.hid hJ
      clear hxu hmm hxd
      go_upto_region 10 with (first
        | (rw [hwo.out])
        | (refine wpL_loadO rfl _ rfl bq (oq + j * 27) rfl o gp gc hcq.out ?_)
        | (refine wpL_alloc rfl rfl ?_; simp only [Act.put, List.setIfInBounds_toArray, List.set_cons_succ, List.set_cons_zero])
        | (refine wpL_store rfl _ _ rfl (n := o) (gp := gp) (gc := gc) (by first | rfl | (simp only [World.size_alloc]; rfl)) rfl ?_; try simp only [Act.put])
        | fail)
      rw [hbo.out]
      go_upto_region 11 with (first
        | (refine wpList_load_row rfl 42 _ rfl bo rfl 42 (opC o gp gc) (0, 0) _ hO4 Tryd.underlying42 rfl (by kernel_rfl) ?_)
        | fail)
      refine (Name_any o gp gc j _ hxg.out.ok.hk (by omega)).mono ?_
      rintro e w5 ⟨rfl, hb5⟩
      have hI6 : IdAt (w5.alloc (.cells #[.int .i64 o.b, .int .i64 ((j : Int) + 1), .int .u64 o.k] 34)) w5.heap.size (o.name j) := IdAt.made w5 (o.name j)
      have hb6 := hb5.trans ((Below.lit w5 (.cells #[.int .i64 o.b, .int .i64 ((j : Int) + 1), .int .u64 o.k] 34)).mono hb5.size)
      have hbi1 : w5.heap.size ∉ yk.foot := (hS4.out.call hb5).high (Nat.le_refl _)
      obtain ⟨bi, hbi⟩ : ∃ bi, Hid (w5.heap.size = bi) := ⟨_, Lib.hid rfl⟩
      obtain ⟨w6, hw6, hI6⟩ := nameW (p := fun W => IdAt W w5.heap.size (o.name j)) hI6
      rw [hbi.out] at hI6 hbi1
      rw [hw6.out] at hb6
      have hS6 := hS4.out.call hb6
      have hO6 := hO4.below hb6 (cell_lt hO4.cb)
      have hxu6 := hxu4.out.below hb6
      have hRc6 := hRc5.out.below hb6
      replace hb6 := Lib.hid hb6
      replace hS6 := Lib.hid hS6
      replace hxu6 := Lib.hid hxu6
      replace hRc6 := Lib.hid hRc6
      clear hb5 hO4
      go_upto_region 11 with (first | (rw [hw6.out]) | fail)
      rw [hbi.out]
      go_wp2_with (first
        | (refine wpList_load_row rfl 42 _ rfl bo rfl 42 (opC o gp gc) (0, 0) _ hO6 Tryd.underlying42 rfl (by kernel_rfl) ?_)
        | (refine wpList_load_row rfl 34 _ rfl bi rfl 34 #[.int .i64 (o.name j).b, .int .i64 (o.name j).s, .int .u64 (o.name j).u] (0, 0) _ hI6 Tryd.underlying34 rfl (by kernel_rfl) ?_)
        | fail)
      refine (May_w hS6.out o gp gc (o.name j) j (by omega) hOk.out hxg.out.ok hxu6.out).mono ?_
      rintro e w8 ⟨rfl, hb8⟩
      obtain ⟨mv, hmv⟩ : ∃ mv, Hid (s.may o = mv) := ⟨_, Lib.hid rfl⟩
      rw [hmv.out]
      have hS8 := hS6.out.call hb8
      have hO8 := hO6.below hb8 (cell_lt hO6.cb)
      have hI8 := hI6.below hb8
      have hxu8 := hxu6.out.below hb8
      have hRc8 := hRc6.out.below hb8
      have hb48 : Below wr.heap.size wr w8 := by
        have h1 := hb4.out.trans (hb6.out.mono hb4.out.size)
        exact h1.trans (hb8.mono h1.size)
      replace hb48 := Lib.hid hb48
      replace hS8 := Lib.hid hS8
      replace hxu8 := Lib.hid hxu8
      replace hRc8 := Lib.hid hRc8
      clear hb8
      by_cases hm0 : mv = 0
      · subst hm0
        go_wp2_with fail
        have hcp := Copy_any w8 yk s j hS8.out.roll hOk.out
        rw [hS8.out.hr] at hcp
        refine hcp.mono ?_
        rintro e w9 ⟨y2, rfl, hR9, hf9, hb9⟩
        clear hcp
        have hP := power_ok hJ.out (o.name j) hmv.out
        have hS9 := hS8.out.call hb9
        have hO9 := hO8.below hb9 (cell_lt hO8.cb)
        have hI9 := hI8.below hb9
        have hxu9 := hxu8.out.below hb9
        have hRc9 := hRc8.out.below hb9
        have hb49 : Below wr.heap.size wr w9 := hb48.out.trans (hb9.mono hb48.out.size)
        have h29 : ∀ i ∈ y2.foot, i ∉ yk.foot := fun i hi => hS8.out.high (hf9 i hi)
        obtain ⟨r2, hr2⟩ : ∃ r2, Hid (y2.r = r2) := ⟨_, Lib.hid rfl⟩
        rw [hr2.out]
        have hkc := hO9.ck
        have hbc := hO9.cb
        obtain ⟨K, hK⟩ : ∃ K, Hid (o.k = K) := ⟨_, Lib.hid rfl⟩
        obtain ⟨kb, hkb⟩ : ∃ kb : Nat, Hid (o.b = (kb : Int) + 1) := ⟨(o.b - 1).toNat, Lib.hid (by have := hxb.out; omega)⟩
        have hkb7 : kb < 7 := by have := hxb.out; have := hkb.out; omega
        rw [hK.out] at hkc
        rw [hkb.out] at hbc
        rw [hK.out, hkb.out] at hP
        replace hS9 := Lib.hid hS9
        replace hR9 := Lib.hid hR9
        replace hxu9 := Lib.hid hxu9
        replace hRc9 := Lib.hid hRc9
        replace hb49 := Lib.hid hb49
        replace h29 := Lib.hid h29
        replace hP := Lib.hid hP
        clear hb9 hf9 hS8 hO8 hI8 hxu8 hRc8 hb48 hS6 hI6 hO6 hxu6 hRc6 hb6
        go_upto_region 13 with fail
        go_cut [54] from 41 to 53 (fun v T => v = .bool false ∧ Hid (w9 = T))
        case first =>
          by_cases hK1 : K = 1
          · subst hK1
            go_wp2_with fail
            go_meet
            exact ⟨rfl, Lib.hid rfl⟩
          · have hK1b : (K != 1) = true := bne_iff_ne.2 hK1
            have hin := (hP.out hK1).1
            replace hK1 := Lib.hid hK1
            go_wp2_with fail
            refine (Has_w hS9.out ((kb : Int) + 1) (by unfold i64ok; omega)).mono ?_
            rintro e _ ⟨rfl, rfl⟩
            rw [hin]
            go_wp2_with fail
            go_meet
            exact ⟨rfl, Lib.hid rfl⟩
        case rest =>
          obtain ⟨rfl, hwT⟩ := hcut
          obtain rfl := hwT.out
          go_wp2_with (first
            | (refine wpList_load_row rfl 42 _ rfl bo rfl 42 (opC o gp gc) (0, 0) _ hO9 Tryd.underlying42 rfl (by kernel_rfl) ?_)
            | (refine wpList_load_row rfl 34 _ rfl bi rfl 34 #[.int .i64 (o.name j).b, .int .i64 (o.name j).s, .int .u64 (o.name j).u] (0, 0) _ hI9 Tryd.underlying34 rfl (by kernel_rfl) ?_)
            | fail)
          refine (Do_w hS9.out h0 o gp gc (o.name j) j (by omega) hOk.out hxg.out.ok hxu9.out (fun h9 => (hxg.out.gd h9).1)).mono ?_
          rintro e wd ⟨rfl, yd, hSd, hzd, hkd⟩
          have hnx : Hid (madeN (L.map Prod.fst) false (j + 1) = s.act o (o.name j)) := Lib.hid (by rw [hst.out, if_pos hmv.out])
          have hbo9 : bo ∉ yk.foot := hbo1
          have hOd := hO9.keep hkd hbo9
          have hRd2 := hR9.out.keeps hkd hzd h29.out
          have hRcd := hRc9.out.keeps hkd hzd (fun a ha => (hcok.out a ha).1)
          have hKpd : Hid (Keeps w4 wd y yd ∧ w4.heap.size ≤ wd.heap.size) := Lib.hid (by
            have h1 : Keeps w4 w9 y yk := hKp.out.1.trans (Keeps.below hb49.out yk) hKp.out.2
            have h2 := Nat.le_trans hKp.out.2 hb49.out.size
            exact ⟨h1.trans hkd h2, Nat.le_trans h2 hzd⟩)
          obtain ⟨s', hs'⟩ : ∃ s', Hid (s.act o (o.name j) = s') := ⟨_, Lib.hid rfl⟩
          rw [hs'.out] at hSd hnx hP
          have hkc := hOd.ck
          have hbc := hOd.cb
          rw [hK.out] at hkc
          rw [hkb.out] at hbc
          obtain ⟨bc, oc, hpe, hbcl, hcc1⟩ := hRcd kb (by show kb < 7; exact hkb7)
          subst hpe
          rw [cardsP_at hkb7] at hcc1
          have qm : wd.cell? ⟨bc, oc + kb * 5 + 1, none⟩ = some (.int .i64 (nth ownersL kb)) := hcc1 1 _ rfl
          obtain ⟨m, hm⟩ : ∃ m, Hid (nth ownersL kb = m) := ⟨_, Lib.hid rfl⟩
          rw [hm.out] at qm
          have hmo : Hid (ofD ((kb : Int) + 1) = m) := Lib.hid (by rw [ofD_at hkb7, hm.out])
          have hmb : Hid (0 ≤ m ∧ m ≤ 4) := Lib.hid (by rw [← hmo.out]; exact ofD_bd _)
          rw [hmo.out] at hP
          have e1 : IntKind.i64.wrap (kb : Int) = kb := wrapS (by omega) (by omega)
          have e2 : IntKind.i64.wrap ((kb : Int) + 1 - 1) = kb := by rw [show ((kb : Int) + 1 - 1) = kb by omega]; exact e1
          have hix1' : (0 : Int) ≤ (kb : Int) := by omega
          have hix2' : (kb : Int) < ((cardsP.length : Nat) : Int) := by show (kb : Int) < 7; omega
          have har : around (kb : Int) 7 = kb := by
            unfold around
            rw [if_neg (by omega)]
            omega
          replace hSd := Lib.hid hSd
          replace hRd2 := Lib.hid hRd2
          replace hRcd := Lib.hid hRcd
          replace hOd := Lib.hid hOd
          clear hO9 hI9 hS9 hR9 hxu9 hRc9 hkd hcc1
          replace har := Lib.hid har
          go_wp2_with fail
          refine (Around_any (kb : Int) 7 _ (by omega) (by omega) (by decide) (by decide)).mono ?_
          rintro e _ ⟨rfl, rfl⟩
          rw [har.out]
          go_upto_region 17 with fail
          have hms : i64ok m := by have := hmb.out; unfold i64ok; omega
          have hrl2 := fun n hn => Role_any wd y2 s n hRd2.out hn
          rw [hr2.out] at hrl2
          replace hrl2 := Lib.hid hrl2
          obtain ⟨rm, hrm⟩ : ∃ rm, Hid (s.role m = rm) := ⟨_, Lib.hid rfl⟩
          replace hP : Hid (K ≠ 1 → rm ≠ 3 → (∀ d, s.inB d ≠ s'.inB d → ofD d = m ∨ K = 13) ∧ (∀ n, n ≠ m → s'.role n = s.role n) ∧ (s'.role m = rm ∨ s'.role m = 0)) := Lib.hid (by
            intro h1 h2
            have := (hP.out h1).2 (by rw [hrm.out]; exact h2)
            rw [hrm.out] at this
            exact this)
          go_cut [75] from 67 to 74 (fun v T => ∃ bs : Bool, v = .bool bs ∧ Hid (wd = T) ∧ Hid (bs = false → rm ≠ 3 ∧ K ≠ 1))
          case first =>
            by_cases hr3 : rm = 3
            · subst hr3
              go_wp2_with fail
              refine (hrl2.out m hms).mono ?_
              rintro e _ ⟨rfl, rfl⟩
              rw [hrm.out]
              go_wp2_with fail
              go_meet
              exact ⟨true, rfl, Lib.hid rfl, Lib.hid (fun h => by cases h)⟩
            · have hr3b : (rm == 3) = false := beq_eq_false_iff_ne.2 hr3
              replace hr3 := Lib.hid hr3
              by_cases hK1 : K = 1
              · subst hK1
                go_wp2_with fail
                refine (hrl2.out m hms).mono ?_
                rintro e _ ⟨rfl, rfl⟩
                rw [hrm.out]
                go_wp2_with fail
                go_meet
                exact ⟨true, rfl, Lib.hid rfl, Lib.hid (fun h => by cases h)⟩
              · have hK1b : (K == 1) = false := beq_eq_false_iff_ne.2 hK1
                replace hK1 := Lib.hid hK1
                go_wp2_with fail
                refine (hrl2.out m hms).mono ?_
                rintro e _ ⟨rfl, rfl⟩
                rw [hrm.out]
                go_wp2_with fail
                go_meet
                exact ⟨false, rfl, Lib.hid rfl, Lib.hid (fun _ => ⟨hr3.out, hK1.out⟩)⟩
          case rest =>
            obtain ⟨bs, rfl, hwT, hbs⟩ := hcut
            obtain rfl := hwT.out
            cases bs with
            | true =>
              go_wp2_with fail
              go_roundw
              case rel => exact ⟨j + 1, yd, by omega, by go_num, by rw [hnx.out]; exact hSd.out, hKpd⟩
              case measure => simp [intOf]; omega
            | false =>
              obtain ⟨hb1', hb2'⟩ := hbs.out rfl
              obtain ⟨hPin, hProle, hPown⟩ := hP.out hb2' hb1'
              replace hPin := Lib.hid hPin
              replace hProle := Lib.hid hProle
              replace hPown := Lib.hid hPown
              clear hP hbs
              go_wp2_with fail
              go_loopw [11] (fun i wl => ∃ k : Nat, k ≤ 7 ∧ i = .int .i64 k ∧ Hid (wd = wl)) (fun i _ => 7 - (intOf i).toNat)
              case atStart => exact ⟨0, by omega, rfl, Lib.hid rfl⟩
              case round =>
                obtain ⟨k, hk, rfl, hwl⟩ := hrel
                obtain rfl := hwl.out
                by_cases hk7 : k < 7
                · obtain ⟨bk, ok, hpk, _, hck⟩ := hRcd.out k (by show k < 7; exact hk7)
                  injection hpk with hpk
                  injection hpk with hpk1 hpk2
                  subst hpk1; subst hpk2
                  rw [cardsP_at hk7] at hck
                  have qd : wd.cell? ⟨bc, oc + k * 5, none⟩ = some (.int .i64 ((k : Int) + 1)) := hck 0 _ rfl
                  have qm2 : wd.cell? ⟨bc, oc + k * 5 + 1, none⟩ = some (.int .i64 (nth ownersL k)) := hck 1 _ rfl
                  obtain ⟨mk, hmk⟩ : ∃ mk, Hid (nth ownersL k = mk) := ⟨_, Lib.hid rfl⟩
                  rw [hmk.out] at qm2
                  have hjx1 : (0 : Int) ≤ (k : Int) := by omega
                  have hjx2 : (k : Int) < ((cardsP.length : Nat) : Int) := by show (k : Int) < 7; omega
                  have hkd : i64ok ((k : Int) + 1) := by unfold i64ok; omega
                  have hhas2 := fun n hn => Has_any wd y2 s n hRd2.out hn
                  rw [hr2.out] at hhas2
                  replace hhas2 := Lib.hid hhas2
                  replace hck := Lib.hid hck
                  go_upto_region 22 with fail
                  go_cut [107] from 87 to 106 (fun v T => v = .bool false ∧ Hid (wd = T))
                  case first =>
                    cases hq1 : s.inB ((k : Int) + 1) with
                    | false =>
                      replace hq1 := Lib.hid hq1
                      cases hq2 : s'.inB ((k : Int) + 1) with
                      | false =>
                        replace hq2 := Lib.hid hq2
                        go_wp2_with fail
                        refine (hhas2.out ((k : Int) + 1) hkd).mono ?_
                        rintro e _ ⟨rfl, rfl⟩
                        rw [hq1.out]
                        go_wp2_with fail
                        refine (Has_w hSd.out ((k : Int) + 1) hkd).mono ?_
                        rintro e _ ⟨rfl, rfl⟩
                        rw [hq2.out]
                        go_wp2_with fail
                        go_meet
                        exact ⟨rfl, Lib.hid rfl⟩
                      | true =>
                        replace hq2 := Lib.hid hq2
                        have hne := hPin.out ((k : Int) + 1) (by rw [hq1.out, hq2.out]; decide)
                        rw [ofD_at hk7, hmk.out] at hne
                        by_cases hmm : mk = m
                        · have hmmb : (mk != m) = false := by rw [hmm]; exact bne_self_eq_false m
                          clear hne
                          replace hmm := Lib.hid hmm
                          go_wp2_with fail
                          refine (hhas2.out ((k : Int) + 1) hkd).mono ?_
                          rintro e _ ⟨rfl, rfl⟩
                          rw [hq1.out]
                          go_wp2_with fail
                          refine (Has_w hSd.out ((k : Int) + 1) hkd).mono ?_
                          rintro e _ ⟨rfl, rfl⟩
                          rw [hq2.out]
                          go_wp2_with fail
                          go_meet
                          exact ⟨rfl, Lib.hid rfl⟩
                        · have hmmb : (mk != m) = true := bne_iff_ne.2 hmm
                          obtain rfl : K = 13 := hne.resolve_left hmm
                          replace hmm := Lib.hid hmm
                          go_wp2_with fail
                          refine (hhas2.out ((k : Int) + 1) hkd).mono ?_
                          rintro e _ ⟨rfl, rfl⟩
                          rw [hq1.out]
                          go_wp2_with fail
                          refine (Has_w hSd.out ((k : Int) + 1) hkd).mono ?_
                          rintro e _ ⟨rfl, rfl⟩
                          rw [hq2.out]
                          go_wp2_with fail
                          go_meet
                          exact ⟨rfl, Lib.hid rfl⟩
                    | true =>
                      replace hq1 := Lib.hid hq1
                      cases hq2 : s'.inB ((k : Int) + 1) with
                      | true =>
                        replace hq2 := Lib.hid hq2
                        go_wp2_with fail
                        refine (hhas2.out ((k : Int) + 1) hkd).mono ?_
                        rintro e _ ⟨rfl, rfl⟩
                        rw [hq1.out]
                        go_wp2_with fail
                        refine (Has_w hSd.out ((k : Int) + 1) hkd).mono ?_
                        rintro e _ ⟨rfl, rfl⟩
                        rw [hq2.out]
                        go_wp2_with fail
                        go_meet
                        exact ⟨rfl, Lib.hid rfl⟩
                      | false =>
                        replace hq2 := Lib.hid hq2
                        have hne := hPin.out ((k : Int) + 1) (by rw [hq1.out, hq2.out]; decide)
                        rw [ofD_at hk7, hmk.out] at hne
                        by_cases hmm : mk = m
                        · have hmmb : (mk != m) = false := by rw [hmm]; exact bne_self_eq_false m
                          clear hne
                          replace hmm := Lib.hid hmm
                          go_wp2_with fail
                          refine (hhas2.out ((k : Int) + 1) hkd).mono ?_
                          rintro e _ ⟨rfl, rfl⟩
                          rw [hq1.out]
                          go_wp2_with fail
                          refine (Has_w hSd.out ((k : Int) + 1) hkd).mono ?_
                          rintro e _ ⟨rfl, rfl⟩
                          rw [hq2.out]
                          go_wp2_with fail
                          go_meet
                          exact ⟨rfl, Lib.hid rfl⟩
                        · have hmmb : (mk != m) = true := bne_iff_ne.2 hmm
                          obtain rfl : K = 13 := hne.resolve_left hmm
                          replace hmm := Lib.hid hmm
                          go_wp2_with fail
                          refine (hhas2.out ((k : Int) + 1) hkd).mono ?_
                          rintro e _ ⟨rfl, rfl⟩
                          rw [hq1.out]
                          go_wp2_with fail
                          refine (Has_w hSd.out ((k : Int) + 1) hkd).mono ?_
                          rintro e _ ⟨rfl, rfl⟩
                          rw [hq2.out]
                          go_wp2_with fail
                          go_meet
                          exact ⟨rfl, Lib.hid rfl⟩
                  case rest =>
                    obtain ⟨rfl, hwT⟩ := hcut
                    obtain rfl := hwT.out
                    go_wp2_with fail
                    go_roundw
                    case rel => exact ⟨k + 1, by omega, by go_num, Lib.hid (by first | rfl | trivial)⟩
                    case measure => simp [intOf]; omega
                · have hk77 : k = 7 := by omega
                  subst hk77
                  go_wp2_with fail
                  go_loopw [13] (fun i wl => ∃ k : Nat, 1 ≤ k ∧ k ≤ 5 ∧ i = .int .i64 k ∧ Hid (wd = wl)) (fun i _ => 5 - (intOf i).toNat)
                  case atStart => exact ⟨1, by omega, by omega, by first | rfl | trivial | simp, Lib.hid (by first | rfl | trivial)⟩
                  case round =>
                    obtain ⟨k, hk1, hk, rfl, hwl⟩ := hrel
                    obtain rfl := hwl.out
                    by_cases hk5 : k < 5
                    · have hki : i64ok (k : Int) := by unfold i64ok; omega
                      obtain ⟨ra, hra⟩ : ∃ ra, Hid (s'.role (k : Int) = ra) := ⟨_, Lib.hid rfl⟩
                      go_upto_region 27 with fail
                      go_cut [143] from 108 to 142 (fun v T => v = .bool false ∧ Hid (wd = T))
                      case first =>
                        by_cases hkm : (k : Int) = m
                        · subst hkm
                          have hown := hPown.out
                          rw [hra.out] at hown
                          have t2 : ((k : Int) == (k : Int)) = true := beq_self_eq_true _
                          have t1 : ((k : Int) != (k : Int)) = false := bne_self_eq_false _
                          by_cases har2 : ra = rm
                          · have t3 : (ra != rm) = false := by rw [har2]; exact bne_self_eq_false _
                            replace har2 := Lib.hid har2
                            clear hown
                            go_wp2_with fail
                            refine (Role_w hSd.out (k : Int) hki).mono ?_
                            rintro e _ ⟨rfl, rfl⟩
                            rw [hra.out]
                            go_wp2_with fail
                            refine (hrl2.out (k : Int) hki).mono ?_
                            rintro e _ ⟨rfl, rfl⟩
                            rw [hrm.out]
                            go_wp2_with fail
                            go_meet
                            exact ⟨rfl, Lib.hid rfl⟩
                          · have t3 : (ra != rm) = true := bne_iff_ne.2 har2
                            obtain rfl : ra = 0 := hown.resolve_left har2
                            replace har2 := Lib.hid har2
                            go_wp2_with fail
                            refine (Role_w hSd.out (k : Int) hki).mono ?_
                            rintro e _ ⟨rfl, rfl⟩
                            rw [hra.out]
                            go_wp2_with fail
                            refine (hrl2.out (k : Int) hki).mono ?_
                            rintro e _ ⟨rfl, rfl⟩
                            rw [hrm.out]
                            go_wp2_with fail
                            refine (Role_w hSd.out (k : Int) hki).mono ?_
                            rintro e _ ⟨rfl, rfl⟩
                            rw [hra.out]
                            go_wp2_with fail
                            go_meet
                            exact ⟨rfl, Lib.hid rfl⟩
                        · have t1 : ((k : Int) != m) = true := bne_iff_ne.2 hkm
                          have t2 : ((k : Int) == m) = false := beq_eq_false_iff_ne.2 hkm
                          have hrs : Hid (s.role (k : Int) = ra) := Lib.hid (by rw [← hProle.out _ hkm]; exact hra.out)
                          have t3 : (ra != ra) = false := bne_self_eq_false _
                          replace hkm := Lib.hid hkm
                          go_wp2_with fail
                          refine (hrl2.out (k : Int) hki).mono ?_
                          rintro e _ ⟨rfl, rfl⟩
                          rw [hrs.out]
                          go_wp2_with fail
                          refine (Role_w hSd.out (k : Int) hki).mono ?_
                          rintro e _ ⟨rfl, rfl⟩
                          rw [hra.out]
                          go_wp2_with fail
                          go_meet
                          exact ⟨rfl, Lib.hid rfl⟩
                      case rest =>
                        obtain ⟨rfl, hwT⟩ := hcut
                        obtain rfl := hwT.out
                        go_wp2_with fail
                        go_roundw
                        case rel => exact ⟨k + 1, by omega, by omega, by go_num, Lib.hid (by first | rfl | trivial)⟩
                        case measure => simp [intOf]; omega
                    · have hk55 : k = 5 := by omega
                      subst hk55
                      go_wp2_with fail
                      go_roundw
                      case rel => exact ⟨j + 1, yd, by omega, by go_num, by rw [hnx.out]; exact hSd.out, hKpd⟩
                      case measure => simp [intOf]; omega
      · have hm0b : (mv != 0) = true := bne_iff_ne.2 hm0
        have hnx : Hid (madeN (L.map Prod.fst) false (j + 1) = s) := Lib.hid (by rw [hst.out, if_neg (by rw [hmv.out]; exact hm0)])
        replace hm0 := Lib.hid hm0
        go_wp2_with fail
        go_roundw
        case rel => exact ⟨j + 1, yk, by omega, by go_num, by rw [hnx.out]; exact hS8.out, Lib.hid ⟨fun i hi hn => by
          obtain ⟨h1, h2⟩ := hKp.out.1 i hi hn
          exact ⟨(hb48.out.block i (Nat.lt_of_lt_of_le hi hKp.out.2)).trans h1, h2⟩, Nat.le_trans hKp.out.2 hb48.out.size⟩⟩
        case measure => simp [intOf]; omega
    · go_wp2_with fail
      refine (lives_any _ hS.asks).mono ?_
      rintro e wz ⟨rfl, hbz⟩
      go_wp2_with fail
      go_ret
      exact ⟨rfl, hS.below.trans (hbz.mono hS.hB)⟩
end Go.Proofs.YtkolilbebkkpdaaDoor

