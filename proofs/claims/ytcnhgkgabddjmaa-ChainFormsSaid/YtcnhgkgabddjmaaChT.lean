/-
  A chain of bytes, in the program.
-/
import Derived.Test.YtcnhgkgabddjmaaChS
import Derived.Test.YtcnhgkgabddjmaaChC
namespace Go.Proofs.Ytcnhgkgabddjmaa
open Go.RowKit Go.Maps

theorem gM_bd (bs : List Int) : 0 ≤ (gM bs).1 ∧ (gM bs).1 ≤ 50 := by
  unfold gM rdMany
  split
  · exact ⟨Int.le_refl _, by show (0 : Int) ≤ 50; decide⟩
  · rename_i h; dsimp only; omega
theorem isSec_iff (x : Int) : isSec x = true ↔ 1 ≤ x ∧ x ≤ 2305843009213693949 := by unfold isSec; exact decide_eq_true_iff
theorem isSec_not {x : Int} (h : isSec x = false) : ¬ (1 ≤ x ∧ x ≤ 2305843009213693949) := by unfold isSec at h; exact of_decide_eq_false h
theorem InAt.two2 {w w' : World} {i n c d b : Nat} {p : Option Addr} {bs : List Int} {s : Nat × Int} (h : InAt w i p n c bs s) (hT : Two w w' d b) (h1 : i ≠ d ∧ i ≠ b) (hf : bs ≠ [] → ∀ a, p = some a → a.block ≠ d ∧ a.block ≠ b) : InAt w' i p n c bs s := by
  by_cases hb : bs = []
  · subst hb
    exact ⟨(hT.blk i h.lt h1.1 h1.2).trans h.blk, ⟨h.b8.len, .inl rfl, fun _ h => by cases h⟩, h.far, h.le⟩
  · exact h.two hT h1 (hf hb)
theorem Two.grown1 {w w' : World} {i : Nat} (h : Two w w' i i) : w.grownBy w' (some i) := ⟨h.os, h.tape, h.out, h.size, fun k hk hne => h.blk k hk (fun e => hne (by rw [e])) (fun e => hne (by rw [e]))⟩
theorem gK_succ (bs : List Int) (j : Nat) {ks : List (Int × Int)} {s s1 s2 : Nat × Int} {v1 v2 : Nat} (h : gK bs j = (ks, s)) (h1 : rdNum bs s = (v1, s1)) (h2 : rdNum bs s1 = (v2, s2)) : gK bs (j + 1) = (ks ++ [(unI v1, (v2 : Int))], s2) := by
  unfold gK at h ⊢
  unfold rdKs
  simp only [h, h1, h2]
theorem KeptD.good {a : Int} {ks : List (Int × Int)} {D : DataW Unit} (hkd : (goodL a ks).2 = true → KeptD ks D) (k v : Int) (h : (goodL a (ks ++ [(k, v)])).2 = true) : KeptD (ks ++ [(k, v)]) (D.put (.int .i64 k) (.lit (.int .u64 v))) := by
  rw [goodL_snoc] at h
  dsimp only at h
  simp only [Bool.and_eq_true, decide_eq_true_eq] at h
  obtain ⟨⟨⟨h1, h2⟩, h3⟩, h4⟩ := h
  refine (hkd h1).put k v (valK_none fun p hp e => ?_)
  have := ((goodL_iff a ks).2.1 ((goodL_iff a ks).1.1 h1)).2 p hp
  omega
theorem rdNum_place {bs : List Int} {s s' : Nat × Int} {v : Nat} (hb : ∀ x ∈ bs, 0 ≤ x ∧ x < 256) (hs : s.1 ≤ bs.length) (h : rdNum bs s = (v, s')) : v < 18446744073709551616 ∧ s'.1 ≤ bs.length := by
  have := rdNum_bd hb hs
  rw [h] at this
  exact this
/-- A key laid into a map of one's own. -/
theorem map_put {w : World} {b nn : Nat} {D : DataW Unit} (h : w.ownsMap Try.prog 3 (plainElem Try.prog 22) b nn D) (hm : nn ≤ 1000) {k v : Int} (h0 : -9223372036854775808 ≤ k) (h1 : k ≤ 9223372036854775807) (v0 : 0 ≤ v) (v1 : v < 18446744073709551616) :
    ∃ w', (Instr.mapUpdate 69 (.map (some b)) (.int .i64 k) (.int .u64 v)).run Try.prog w = .ok () w' ∧ w'.ownsMap Try.prog 3 (plainElem Try.prog 22) b (nn + 1) (D.put (.int .i64 k) (.lit (.int .u64 v))) ∧ w.grownBy w' (some b) :=
  h.update key_law Try.underlying69 (by unfold maxLen; omega) (key_of h0 h1) (plainElem_int (q := .u64) (a := v) Try.underlying22 (by simp only [Lit.wf, Bool.and_eq_true, decide_eq_true_eq]; exact ⟨v0, by show v ≤ 18446744073709551615; omega⟩))
set_option maxRecDepth 100000 in
set_option maxHeartbeats 8000000 in
theorem Get_any (p : Option Addr) (n cp : Nat) (bs : List Int) (w : World) (hB : B8 w p n bs) (hp : p = none → cp = 0) (hn : n ≤ 1000000) :
    Calls Try.prog 30 #[.slice p n cp] w fun e w' => (getOk bs → ∃ c b, e = .returned (.tuple #[.pointer (some ⟨c, 0, none⟩), .int .i64 0]) ∧ ChAt w' c b (getM bs) ∧ w.heap.size ≤ c ∧ w.heap.size ≤ b ∧ c ≠ b) ∧ (¬ getOk bs → e = .returned (.tuple #[.pointer none, .int .i64 7])) ∧ Below w.heap.size w w' := by
  have hlen := Lib.hid hB.len
  have hby := hB.bd
  replace hby := Lib.hid hby
  obtain ⟨mb0, mb1⟩ := gM_bd bs
  go_enter Try.func30, Try.ntmps30
  go_wp2_with fail
  refine (Open_any p n cp bs _ hB hp hn).mono ?_
  rintro e w1 ⟨q, i, cq, rfl, hI, hi0, hF, hb⟩
  clear hB
  obtain ⟨A, sA, hA⟩ : ∃ A sA, gA bs = (A, sA) := ⟨_, _, rfl⟩
  obtain ⟨S, sS, hS⟩ : ∃ S sS, gS bs = (S, sS) := ⟨_, _, rfl⟩
  obtain ⟨M, sM, hM⟩ : ∃ M sM, gM bs = (M, sM) := ⟨_, _, rfl⟩
  have hA' : Hid (rdNum bs (0, 0) = (A, sA)) := Lib.hid hA
  have hS' : Hid (rdNum bs sA = (S, sS)) := Lib.hid (by have := hS; unfold gS at this; rw [hA] at this; exact this)
  have hM' : Hid (rdMany 50 bs sS = (M, sM)) := Lib.hid (by have := hM; unfold gM at this; rw [hS] at this; exact this)
  have bA := rdNum_bd hby.out (s := (0, 0)) (Nat.zero_le _)
  rw [hA'.out] at bA
  have bS := rdNum_bd hby.out (s := sA) bA.2
  rw [hS'.out] at bS
  have uA := unI_bd bA.1
  rw [hM] at mb0 mb1
  dsimp only at mb0 mb1
  obtain ⟨Mn, rfl⟩ : ∃ Mn : Nat, M = Mn := ⟨M.toNat, by omega⟩
  have bSn : S < 18446744073709551616 := bS.1
  clear bA bS
  replace hA := Lib.hid hA
  replace hS := Lib.hid hS
  replace hM := Lib.hid hM
  go_wp2_with fail
  refine (RInt_any i q n cq bs _ _ hI hn A sA hA'.out).mono ?_
  rintro e w2 ⟨rfl, hI2, hT2⟩
  have hb2 := Two.below0 hb hT2 hi0 hi0
  clear hI hT2 hb
  go_wp2_with fail
  refine (RNum_any i q n cq bs _ _ hI2 hn S sS hS'.out).mono ?_
  rintro e w3 ⟨rfl, hI3, hT3⟩
  have hb3 := Two.below0 hb2 hT3 hi0 hi0
  clear hI2 hT3 hb2
  go_wp2_with fail
  have hmm : (Instr.makeMap 69 none).run Try.prog w3 = .ok (.map (some w3.heap.size)) (w3.alloc (.map #[] 0)) := run_makeMap _ w3
  rw [hmm]
  clear hmm
  go_wp2_with fail
  have hz := World.size_alloc w3 (.map #[] 0)
  have hch := World.alloc_heap_new (w3.alloc (.map #[] 0)) (.cells #[.int .i64 (unI A), .int .u64 (S : Int), .map (some w3.heap.size)] 71)
  rw [hz] at hch
  have hb4 : Below w3.heap.size w3 ((w3.alloc (.map #[] 0)).alloc (.cells #[.int .i64 (unI A), .int .u64 (S : Int), .map (some w3.heap.size)] 71)) := (Below.lit w3 _).alloc (by omega) _
  have hown : ((w3.alloc (.map #[] 0)).alloc (.cells #[.int .i64 (unI A), .int .u64 (S : Int), .map (some w3.heap.size)] 71)).ownsMap Try.prog 3 (plainElem (H := Unit) Try.prog 22) w3.heap.size 0 (.map []) := (World.ownsMap_made w3 Try.prog 3 _).alloc _
  have hI4 := hI3.below hb4
  have hi3 := hI3.lt
  have hib : i ≠ w3.heap.size ∧ i ≠ w3.heap.size + 1 := by omega
  have hq3 : bs ≠ [] → ∀ a, q = some a → a.block ≠ w3.heap.size ∧ a.block ≠ w3.heap.size := fun hbs a ha => by
    have := hI3.b8.rd.lt (by simpa using hbs) a ha
    omega
  have hc0 : w.heap.size ≤ w3.heap.size + 1 := by have := hb3.size; omega
  have hb0 : w.heap.size ≤ w3.heap.size := hb3.size
  have hcb : w3.heap.size + 1 ≠ w3.heap.size := by omega
  have hb40 := hb3.trans (hb4.mono hb3.size)
  clear hI3 hb3 hb4 hz hi3
  generalize w3.heap.size + 1 = c at *
  generalize (w3.alloc (.map #[] 0)).alloc (.cells #[.int .i64 (unI A), .int .u64 (S : Int), .map (some w3.heap.size)] 71) = w4 at *
  generalize w3.heap.size = b at *
  go_wp2_with fail
  refine (RMany_any i q n cq bs _ 50 _ hI4 hn Mn sM hM'.out).mono ?_
  rintro e w5 ⟨rfl, hI5, hT5⟩
  have hb5 := Two.below0 hb40 hT5 hi0 hi0
  have hown5 := hown.kept hT5.grown1 (fun e => by injection e with e; exact hib.1 e.symm)
  have hclt : c < w5.heap.size := by have := (Array.getElem?_eq_some_iff.1 hch).1; have := hT5.size; omega
  have hch5 := (hT5.blk c (Array.getElem?_eq_some_iff.1 hch).1 (fun e => hib.2 e.symm) (fun e => hib.2 e.symm)).trans hch
  clear hI4 hT5 hb40 hown hch
  have hK0 : gK bs 0 = ([], sM) := by unfold gK; rw [hM.out]; rfl
  go_wp2_with fail
  go_loopw [6, 7, 8] (fun last right many W => ∃ (j nn : Nat) (D : DataW Unit), j ≤ Mn ∧ last = .int .i64 (goodL (unI A) (gK bs j).1).1 ∧ right = .bool (goodL (unI A) (gK bs j).1).2 ∧ many = .int .i64 ((Mn : Int) - (j : Int)) ∧ InAt W i q n cq bs (gK bs j).2 ∧
      W.ownsMap Try.prog 3 (plainElem (H := Unit) Try.prog 22) b nn D ∧ nn ≤ j ∧ Hid ((goodL (unI A) (gK bs j).1).2 = true → KeptD (gK bs j).1 D) ∧ W.heap[c]? = some (.cells #[.int .i64 (unI A), .int .u64 (S : Int), .map (some b)] 71 (0, 0)) ∧ Below w.heap.size w W)
    (fun _ _ m _ => (intOf m).toNat)
  case atStart => exact ⟨0, 0, .map [], by omega, by rw [hK0]; rfl, by rw [hK0]; rfl, by simp, by rw [hK0]; exact hI5, hown5, Nat.le_refl _, Lib.hid (by rw [hK0]; exact fun _ => KeptD.nil), hch5, hb5⟩
  case round =>
    clear hI5 hb5 hown5 hch5 hK0
    obtain ⟨j, nn, D, hj, rfl, rfl, rfl, hI, hown, hnn, hkd, hch, hb⟩ := hrel
    have hclt2 : c < wr.heap.size := (Array.getElem?_eq_some_iff.1 hch).1
    have x0 : wr.cell? ⟨c, 0, none⟩ = some (.int .i64 (unI A)) := by simp [World.cell?, hch]
    have x1 : wr.cell? ⟨c, 1, none⟩ = some (.int .u64 (S : Int)) := by simp [World.cell?, hch]
    have x2 : wr.cell? ⟨c, 2, none⟩ = some (.map (some b)) := by simp [World.cell?, hch]
    by_cases hlt : j < Mn
    · have tm : decide ((0 : Int) < (Mn : Int) - (j : Int)) = true := decide_eq_true (by omega)
      obtain ⟨ks, s, hKs⟩ : ∃ ks s, gK bs j = (ks, s) := ⟨_, _, rfl⟩
      obtain ⟨v1, s1, h1⟩ : ∃ v1 s1, rdNum bs s = (v1, s1) := ⟨_, _, rfl⟩
      obtain ⟨v2, s2, h2⟩ : ∃ v2 s2, rdNum bs s1 = (v2, s2) := ⟨_, _, rfl⟩
      have eK := gK_succ bs j hKs h1 h2
      have eG := goodL_snoc (unI A) ks (unI v1, (v2 : Int))
      rw [hKs] at hI hkd ⊢
      dsimp only at hI hkd eG ⊢
      have p1 := rdNum_place hby.out (by rw [hlen.out]; exact hI.le) h1
      have p2 := rdNum_place hby.out p1.2 h2
      have u1 := unI_bd p1.1
      have hky : 0 ≤ (v2 : Int) ∧ (v2 : Int) < 18446744073709551616 := by omega
      clear p1 p2
      obtain ⟨L, R, hLR⟩ : ∃ L R, goodL (unI A) ks = (L, R) := ⟨_, _, rfl⟩
      have hkd2 := fun (hh : (goodL (unI A) (ks ++ [(unI v1, (v2 : Int))])).2 = true) => KeptD.good hkd.out (unI v1) v2 hh
      rw [hLR] at eG ⊢
      dsimp only at eG ⊢
      replace eK := Lib.hid eK
      replace hKs := Lib.hid hKs
      replace hLR := Lib.hid hLR
      replace h1 := Lib.hid h1
      replace h2 := Lib.hid h2
      replace eG := Lib.hid eG
      replace hkd2 := Lib.hid hkd2
      go_wp2_with fail
      refine (RInt_any i q n cq bs s _ hI hn v1 s1 h1.out).mono ?_
      rintro e w6 ⟨rfl, hI6, hT6⟩
      have hb6 := Two.below0 hb hT6 hi0 hi0
      have hown6 := hown.kept hT6.grown1 (fun e => by injection e with e; exact hib.1 e.symm)
      have hch6 := (hT6.blk c hclt2 (fun e => hib.2 e.symm) (fun e => hib.2 e.symm)).trans hch
      have hclt6 : c < w6.heap.size := (Array.getElem?_eq_some_iff.1 hch6).1
      clear hI hT6 hb hown hch x0 x1 x2
      go_wp2_with fail
      refine (RNum_any i q n cq bs s1 _ hI6 hn v2 s2 h2.out).mono ?_
      rintro e w7 ⟨rfl, hI7, hT7⟩
      have hb7 := Two.below0 hb6 hT7 hi0 hi0
      have hown7 := hown6.kept hT7.grown1 (fun e => by injection e with e; exact hib.1 e.symm)
      have hch7 := (hT7.blk c hclt6 (fun e => hib.2 e.symm) (fun e => hib.2 e.symm)).trans hch6
      clear hI6 hT7 hb6 hown6 hch6
      obtain ⟨w8, hrun, hown8, hg8⟩ := map_put hown7 (by omega) (k := unI v1) (v := (v2 : Int)) u1.1 u1.2 hky.1 hky.2
      have hT8 : Two w7 w8 b b := Two.of_grown hg8 (.inl rfl)
      have hI8 := hI7.two2 hT8 ⟨hib.1, hib.1⟩ hq3
      have hb8 := Two.below0 hb7 hT8 hb0 hb0
      have hch8 := (hT8.blk c (Array.getElem?_eq_some_iff.1 hch7).1 hcb hcb).trans hch7
      have x0 : w7.cell? ⟨c, 0, none⟩ = some (.int .i64 (unI A)) := by simp [World.cell?, hch7]
      have x2 : w7.cell? ⟨c, 2, none⟩ = some (.map (some b)) := by simp [World.cell?, hch7]
      have hkd8 : Hid ((goodL (unI A) (gK bs (j + 1)).1).2 = true → KeptD (gK bs (j + 1)).1 (D.put (.int .i64 (unI v1)) (.lit (.int .u64 (v2 : Int))))) := Lib.hid (by rw [eK.out]; exact hkd2.out)
      have eG2 : Hid (goodL (unI A) (gK bs (j + 1)).1 = (unI v1, R && decide (L < unI v1) && decide (unI v1 < unI A) && isSec (v2 : Int))) := Lib.hid (by rw [eK.out]; exact eG.out)
      clear hkd hkd2 eG hI7 hT8 hb7 hch7 hown7 hg8
      replace hlt := Lib.hid hlt
      cases R with
      | false =>
        have gright : Hid (Value.bool false = .bool (goodL (unI A) (gK bs (j + 1)).1).2) := Lib.hid (by rw [eG2.out]; rfl)
        go_wp2_with (go_at_call 47; refine (secret_any _ _ hky).mono ?_; rintro e w' ⟨rfl, rfl⟩)
        go_roundw
        case rel => exact ⟨j + 1, nn + 1, _, by have := hlt.out; omega, by rw [eG2.out], gright.out, by go_num, by rw [eK.out]; exact hI8, hown8, by omega, hkd8, hch8, hb8⟩
        case measure => have := hlt.out; simp [intOf]; omega
      | true =>
        by_cases hL : L < unI v1
        · have tL : decide (L < unI v1) = true := decide_eq_true hL
          by_cases ha : unI v1 < unI A
          · have ta : decide (unI v1 < unI A) = true := decide_eq_true ha
            have gright : Hid (Value.bool (isSec (v2 : Int)) = .bool (goodL (unI A) (gK bs (j + 1)).1).2) := Lib.hid (by rw [eG2.out, tL, ta]; rfl)
            clear hL ha
            go_wp2_with (go_at_call 47; refine (secret_any _ _ hky).mono ?_; rintro e w' ⟨rfl, rfl⟩)
            go_roundw
            case rel => exact ⟨j + 1, nn + 1, _, by have := hlt.out; omega, by rw [eG2.out], gright.out, by go_num, by rw [eK.out]; exact hI8, hown8, by omega, hkd8, hch8, hb8⟩
            case measure => have := hlt.out; simp [intOf]; omega
          · have ta : decide (unI v1 < unI A) = false := decide_eq_false ha
            have gright : Hid (Value.bool false = .bool (goodL (unI A) (gK bs (j + 1)).1).2) := Lib.hid (by rw [eG2.out, tL, ta]; rfl)
            clear hL ha
            go_wp2_with (go_at_call 47; refine (secret_any _ _ hky).mono ?_; rintro e w' ⟨rfl, rfl⟩)
            go_roundw
            case rel => exact ⟨j + 1, nn + 1, _, by have := hlt.out; omega, by rw [eG2.out], gright.out, by go_num, by rw [eK.out]; exact hI8, hown8, by omega, hkd8, hch8, hb8⟩
            case measure => have := hlt.out; simp [intOf]; omega
        · have tL : decide (L < unI v1) = false := decide_eq_false hL
          have gright : Hid (Value.bool false = .bool (goodL (unI A) (gK bs (j + 1)).1).2) := Lib.hid (by rw [eG2.out, tL]; rfl)
          clear hL
          go_wp2_with (go_at_call 47; refine (secret_any _ _ hky).mono ?_; rintro e w' ⟨rfl, rfl⟩)
          go_roundw
          case rel => exact ⟨j + 1, nn + 1, _, by have := hlt.out; omega, by rw [eG2.out], gright.out, by go_num, by rw [eK.out]; exact hI8, hown8, by omega, hkd8, hch8, hb8⟩
          case measure => have := hlt.out; simp [intOf]; omega
    · obtain rfl : j = Mn := by omega
      have tm : decide ((0 : Int) < (j : Int) - (j : Int)) = false := decide_eq_false (by omega)
      obtain ⟨ks, s, hKs⟩ : ∃ ks s, gK bs j = (ks, s) := ⟨_, _, rfl⟩
      have hgo : getOk bs ↔ (goodL (unI A) ks).2 = true ∧ 0 ≤ unI A ∧ unI A ≤ 1073741824 ∧ ((1 ≤ (S : Int) ∧ (S : Int) ≤ 2305843009213693949) ∨ (S = 0 ∧ ks = [])) ∧ s.2 = 0 ∧ s.1 = n := by
        unfold getOk
        rw [hA.out, hS.out, hM.out]
        dsimp only
        rw [Int.toNat_natCast, hKs, hlen.out]
      have hgm : Hid (Ch.mk (unI A).toNat (S : Int) ks = getM bs) := Lib.hid (by
        unfold getM
        rw [hA.out, hS.out, hM.out]
        dsimp only
        rw [Int.toNat_natCast, hKs])
      have hkl : ks.length = j := by have := rdKs_len bs (gM bs).2 j; unfold gK at hKs; rw [hKs] at this; exact this
      rw [hKs] at hI hkd ⊢
      dsimp only at hI hkd ⊢
      obtain ⟨L, R, hLR⟩ : ∃ L R, goodL (unI A) ks = (L, R) := ⟨_, _, rfl⟩
      rw [hLR] at hgo hkd ⊢
      dsimp only at hgo hkd ⊢
      have hgk : Hid (getOk bs → s.2 = 0 ∧ s.1 = n) := Lib.hid (fun hg => (hgo.1 hg).2.2.2.2)
      replace hKs := Lib.hid hKs
      replace hLR := Lib.hid hLR
      replace hkl := Lib.hid hkl
      replace hgo := Lib.hid hgo
      clear hlt
      have hSb : 0 ≤ (S : Int) ∧ (S : Int) < 18446744073709551616 := by omega
      cases R with
      | false =>
        have hno : ¬ getOk bs := fun hg => by have := (hgo.out.1 hg).1; cases this
        replace hno := Lib.hid hno
        go_wp2_with fail
        refine (End_any i q n cq bs _ _ hI hn).mono ?_
        rintro e w9 ⟨⟨er, rfl, her⟩, hb9⟩
        have hbz := hb.trans (hb9.mono hb.size)
        clear hI hown hb hb9
        by_cases h0 : er = 0
        · have te : (er != 0) = false := by rw [h0]; rfl
          clear h0 her
          go_wp2_with fail
          go_ret2
          exact ⟨fun hg => absurd hg hno.out, fun _ => rfl, hbz⟩
        · have te : (er != 0) = true := bne_iff_ne.2 h0
          clear h0 her
          go_wp2_with fail
          go_ret2
          exact ⟨fun hg => absurd hg hno.out, fun _ => rfl, hbz⟩
      | true =>
        by_cases hA0 : 0 ≤ unI A
        · have tA : decide (0 ≤ unI A) = true := decide_eq_true hA0
          replace hA0 := Lib.hid hA0
          by_cases hA1 : unI A ≤ 1073741824
          · have tB : decide (unI A ≤ 1073741824) = true := decide_eq_true hA1
            replace hA1 := Lib.hid hA1
            cases hsec : isSec (S : Int) with
            | true =>
              have hyes : s.2 = 0 ∧ s.1 = n → getOk bs := fun h => hgo.out.2 ⟨(by simp), hA0.out, hA1.out, .inl ((isSec_iff _).1 hsec), h.1, h.2⟩
              replace hsec := Lib.hid hsec
              go_wp2_with fail
              refine (secret_any _ _ hSb).mono ?_
              rintro e w' ⟨rfl, rfl⟩
              rw [hsec.out]
              replace hyes := Lib.hid hyes
              go_wp2_with fail
              refine (End_any i q n cq bs _ _ hI hn).mono ?_
              rintro e w9 ⟨⟨er, rfl, her⟩, hb9⟩
              have hbz := hb.trans (hb9.mono hb.size)
              have hC : ChAt w9 c b ⟨(unI A).toNat, S, ks⟩ := by
                have hb9' := hb9.block c (Array.getElem?_eq_some_iff.1 hch).1
                refine ⟨hb9'.trans ?_, (KeptM.of hown (hkd.out (by simp))).kept (row := none) ⟨hb9.os, hb9.tape, hb9.output, hb9.size, fun i hi _ => hb9.block i hi⟩ (by simp)⟩
                rw [hch]
                have e9 : ((((unI A).toNat : Nat)) : Int) = unI A := by have := hA0.out; omega
                show some (Obj.cells #[.int .i64 (unI A), .int .u64 (S : Int), .map (some b)] _ _) = some (Obj.cells #[.int .i64 ((((unI A).toNat : Nat)) : Int), .int .u64 (S : Int), .map (some b)] _ _)
                rw [e9]
              rw [hgm.out] at hC
              clear hI hown hb hb9 hch
              by_cases h0 : er = 0
              · have te : (er != 0) = false := by rw [h0]; rfl
                have hg : Hid (getOk bs) := Lib.hid (hyes.out (her.1 h0))
                clear h0 her
                go_wp2_with fail
                go_ret2
                exact ⟨fun _ => ⟨c, b, rfl, hC, hc0, hb0, hcb⟩, fun hg' => absurd hg.out hg', hbz⟩
              · have te : (er != 0) = true := bne_iff_ne.2 h0
                have hno : Hid (¬ getOk bs) := Lib.hid (fun hg => h0 (her.2 (hgk.out hg)))
                clear h0 her
                go_wp2_with fail
                go_ret2
                exact ⟨fun hg => absurd hg hno.out, fun _ => rfl, hbz⟩
            | false =>
              have hns := isSec_not hsec
              replace hsec := Lib.hid hsec
              go_wp2_with fail
              refine (secret_any _ _ hSb).mono ?_
              rintro e w' ⟨rfl, rfl⟩
              rw [hsec.out]
              by_cases hS0 : S = 0
              · have tS : ((S : Int) == 0) = true := beq_iff_eq.2 (by omega)
                have hsz := (hkd.out (by simp)).size
                rw [hkl.out] at hsz
                have hlenM : ∀ ty, (Builtin.len_ #[69] ty #[.map (some b)]).run Try.prog wr = .ok (.int .i64 j) wr := fun ty => by
                  have := hown.len Try.underlying69 ty
                  rwa [hsz] at this
                replace hsz := Lib.hid hsz
                by_cases hj0 : j = 0
                · have tj : ((j : Int) == 0) = true := beq_iff_eq.2 (by omega)
                  have hyes : s.2 = 0 ∧ s.1 = n → getOk bs := fun h => hgo.out.2 ⟨(by simp), hA0.out, hA1.out, .inr ⟨hS0, List.eq_nil_of_length_eq_zero (by rw [hkl.out]; exact hj0)⟩, h.1, h.2⟩
                  clear hS0 hj0 hns
                  replace hyes := Lib.hid hyes
                  go_wp2_with fail
                  refine (End_any i q n cq bs _ _ hI hn).mono ?_
                  rintro e w9 ⟨⟨er, rfl, her⟩, hb9⟩
                  have hbz := hb.trans (hb9.mono hb.size)
                  have hC : ChAt w9 c b ⟨(unI A).toNat, S, ks⟩ := by
                    have hb9' := hb9.block c (Array.getElem?_eq_some_iff.1 hch).1
                    refine ⟨hb9'.trans ?_, (KeptM.of hown (hkd.out (by simp))).kept (row := none) ⟨hb9.os, hb9.tape, hb9.output, hb9.size, fun i hi _ => hb9.block i hi⟩ (by simp)⟩
                    rw [hch]
                    have e9 : ((((unI A).toNat : Nat)) : Int) = unI A := by have := hA0.out; omega
                    show some (Obj.cells #[.int .i64 (unI A), .int .u64 (S : Int), .map (some b)] _ _) = some (Obj.cells #[.int .i64 ((((unI A).toNat : Nat)) : Int), .int .u64 (S : Int), .map (some b)] _ _)
                    rw [e9]
                  rw [hgm.out] at hC
                  clear hI hown hb hb9 hch
                  by_cases h0 : er = 0
                  · have te : (er != 0) = false := by rw [h0]; rfl
                    have hg : Hid (getOk bs) := Lib.hid (hyes.out (her.1 h0))
                    clear h0 her
                    go_wp2_with fail
                    go_ret2
                    exact ⟨fun _ => ⟨c, b, rfl, hC, hc0, hb0, hcb⟩, fun hg' => absurd hg.out hg', hbz⟩
                  · have te : (er != 0) = true := bne_iff_ne.2 h0
                    have hno : Hid (¬ getOk bs) := Lib.hid (fun hg => h0 (her.2 (hgk.out hg)))
                    clear h0 her
                    go_wp2_with fail
                    go_ret2
                    exact ⟨fun hg => absurd hg hno.out, fun _ => rfl, hbz⟩
                · have tj : ((j : Int) == 0) = false := beq_eq_false_iff_ne.2 (by omega)
                  have hno : ¬ getOk bs := fun hg => by
                    rcases (hgo.out.1 hg).2.2.2.1 with h | h
                    · exact hns h
                    · have := congrArg List.length h.2
                      rw [hkl.out] at this
                      exact hj0 this
                  clear hS0 hj0 hns
                  replace hno := Lib.hid hno
                  go_wp2_with fail
                  refine (End_any i q n cq bs _ _ hI hn).mono ?_
                  rintro e w9 ⟨⟨er, rfl, her⟩, hb9⟩
                  have hbz := hb.trans (hb9.mono hb.size)
                  clear hI hown hb hb9
                  by_cases h0 : er = 0
                  · have te : (er != 0) = false := by rw [h0]; rfl
                    clear h0 her
                    go_wp2_with fail
                    go_ret2
                    exact ⟨fun hg => absurd hg hno.out, fun _ => rfl, hbz⟩
                  · have te : (er != 0) = true := bne_iff_ne.2 h0
                    clear h0 her
                    go_wp2_with fail
                    go_ret2
                    exact ⟨fun hg => absurd hg hno.out, fun _ => rfl, hbz⟩
              · have tS : ((S : Int) == 0) = false := beq_eq_false_iff_ne.2 (by omega)
                have hno : ¬ getOk bs := fun hg => by
                  rcases (hgo.out.1 hg).2.2.2.1 with h | h
                  · exact hns h
                  · exact hS0 h.1
                clear hS0 hns
                replace hno := Lib.hid hno
                go_wp2_with fail
                refine (End_any i q n cq bs _ _ hI hn).mono ?_
                rintro e w9 ⟨⟨er, rfl, her⟩, hb9⟩
                have hbz := hb.trans (hb9.mono hb.size)
                clear hI hown hb hb9
                by_cases h0 : er = 0
                · have te : (er != 0) = false := by rw [h0]; rfl
                  clear h0 her
                  go_wp2_with fail
                  go_ret2
                  exact ⟨fun hg => absurd hg hno.out, fun _ => rfl, hbz⟩
                · have te : (er != 0) = true := bne_iff_ne.2 h0
                  clear h0 her
                  go_wp2_with fail
                  go_ret2
                  exact ⟨fun hg => absurd hg hno.out, fun _ => rfl, hbz⟩
          · have tB : decide (unI A ≤ 1073741824) = false := decide_eq_false hA1
            have hno : ¬ getOk bs := fun hg => hA1 (hgo.out.1 hg).2.2.1
            replace hno := Lib.hid hno
            go_wp2_with fail
            refine (End_any i q n cq bs _ _ hI hn).mono ?_
            rintro e w9 ⟨⟨er, rfl, her⟩, hb9⟩
            have hbz := hb.trans (hb9.mono hb.size)
            clear hI hown hb hb9
            by_cases h0 : er = 0
            · have te : (er != 0) = false := by rw [h0]; rfl
              clear h0 her
              go_wp2_with fail
              go_ret2
              exact ⟨fun hg => absurd hg hno.out, fun _ => rfl, hbz⟩
            · have te : (er != 0) = true := bne_iff_ne.2 h0
              clear h0 her
              go_wp2_with fail
              go_ret2
              exact ⟨fun hg => absurd hg hno.out, fun _ => rfl, hbz⟩
        · have tA : decide (0 ≤ unI A) = false := decide_eq_false hA0
          have hno : ¬ getOk bs := fun hg => hA0 (hgo.out.1 hg).2.1
          replace hno := Lib.hid hno
          go_wp2_with fail
          refine (End_any i q n cq bs _ _ hI hn).mono ?_
          rintro e w9 ⟨⟨er, rfl, her⟩, hb9⟩
          have hbz := hb.trans (hb9.mono hb.size)
          clear hI hown hb hb9
          by_cases h0 : er = 0
          · have te : (er != 0) = false := by rw [h0]; rfl
            clear h0 her
            go_wp2_with fail
            go_ret2
            exact ⟨fun hg => absurd hg hno.out, fun _ => rfl, hbz⟩
          · have te : (er != 0) = true := bne_iff_ne.2 h0
            clear h0 her
            go_wp2_with fail
            go_ret2
            exact ⟨fun hg => absurd hg hno.out, fun _ => rfl, hbz⟩
end Go.Proofs.Ytcnhgkgabddjmaa
