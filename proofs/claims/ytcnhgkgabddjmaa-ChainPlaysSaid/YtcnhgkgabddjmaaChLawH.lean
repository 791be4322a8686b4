/-
  The walk of the statement that what each act tells is the document's.
-/
import Derived.Test.YtcnhgkgabddjmaaChZ
import Derived.Test.YtcnhgkgabddjmaaChO
import Derived.Test.YtcnhgkgabddjmaaChLawA
import Derived.StillTailTactics
namespace Go.Proofs.Ytcnhgkgabddjmaa
open Go.RowKit Go.Maps

theorem RefAt.below {w w' : World} {m : Ch} {pn pk : Option Addr} {L : Nat} (h : RefAt w m pn pk L) (hb : Below w.heap.size w w') : RefAt w' m pn pk L := ⟨h.1, h.2.1.below hb, h.2.2.below hb⟩
theorem RefAt.two {w w' : World} {m : Ch} {pn pk : Option Addr} {L c b : Nat} (h : RefAt w m pn pk L) (hT : Two w w' c b) (hn : ∀ a, pn = some a → a.block ≠ c ∧ a.block ≠ b) (hk : ∀ a, pk = some a → a.block ≠ c ∧ a.block ≠ b) : RefAt w' m pn pk L := ⟨h.1, h.2.1.two hT hn, h.2.2.two hT hk⟩
theorem RefAt.ks {w : World} {m m' : Ch} {pn pk : Option Addr} {L : Nat} (h : RefAt w m pn pk L) (e : m'.ks = m.ks) : RefAt w m' pn pk L := by
  unfold RefAt at h ⊢
  rw [e]; exact h
/-- Lists that lie in none of three blocks. -/
def Off (c b z : Nat) (p : Option Addr) : Prop := ∀ a, p = some a → (a.block ≠ c ∧ a.block ≠ b) ∧ a.block ≠ z
theorem Off.fr {w : World} {c b z : Nat} {p p' : Option Addr} (h : Off c b z p) (hf : FrP w p p') (hc : c < w.heap.size) (hb : b < w.heap.size) (hz : z < w.heap.size) : Off c b z p' := fun a ha => by
  rcases hf a ha with h1 | h1
  · exact h a h1
  · omega
theorem Off.none (c b z : Nat) : Off c b z none := fun _ h => by cases h
theorem At_b {w0 w : World} (c b : Nat) (m : Ch) (hb : Below w0.heap.size w0 w) (hC : ChAt w0 c b m) (n : Int) (hn : (m.num : Int) = n) :
    Calls Try.prog 19 #[.pointer (some ⟨c, 0, none⟩)] w fun e w' => e = .returned (.int .i64 n) ∧ w' = w := by
  rw [← hn]
  exact At_any c b m w (hC.below hb)
theorem Kept_bb {w0 w : World} (c b : Nat) (m : Ch) (hb : Below w0.heap.size w0 w) (hC : ChAt w0 c b m) (hok : m.Ok) (hn : m.num ≤ 1152921504606846976) (L : Nat) (xs : List Int) (hL : m.ks.length = L) (hx : numsK m.ks = xs) :
    Calls Try.prog 21 #[.pointer (some ⟨c, 0, none⟩)] w fun e w' => ∃ (p : Option Addr) (cp : Nat), e = .returned (.slice p L cp) ∧ UI w' p L xs ∧ Below w0.heap.size w0 w' := by
  refine (Kept_any c b m w (hC.below hb) hok hn).mono ?_
  rintro e w' ⟨p, cp, rfl, h, _, hb'⟩
  rw [hL, hx] at h
  exact ⟨p, cp, by rw [hL], h, hb.trans (hb'.mono hb.size)⟩
theorem SameInts_b {w0 w : World} (p q : Option Addr) (n : Nat) (xs : List Int) (c d : Nat) (hb : Below w0.heap.size w0 w) (hX : UI w p n xs) (hY : UI w0 q n xs) (hn : n ≤ 9223372036854775806) :
    Calls Try.prog 20 #[.slice p n c, .slice q n d] w fun e w' => e = .returned (.bool true) ∧ Below w0.heap.size w0 w' := by
  refine (SameInts_yes p q n xs c d w hX (hY.below hb) hn).mono ?_
  rintro e w' ⟨rfl, hb'⟩
  exact ⟨rfl, hb.trans (hb'.mono hb.size)⟩
theorem Put_bb {w0 w : World} (c b : Nat) (m : Ch) (hb : Below w0.heap.size w0 w) (hC : ChAt w0 c b m) (hok : m.Ok) (hn : m.num ≤ 1152921504606846976) (L : Nat) (bs : List Int) (hbs : putB m = bs) (hL : bs.length = L) :
    Calls Try.prog 18 #[.pointer (some ⟨c, 0, none⟩)] w fun e w' => ∃ p cp, e = .returned (.slice p L cp) ∧ B8 w' p L bs ∧ Below w0.heap.size w0 w' := by
  refine (Put_any c b m w (hC.below hb) hok hn).mono ?_
  rintro e w' ⟨p, cp, rfl, _, h, _, _, hb', _⟩
  rw [hbs, hL] at h
  exact ⟨p, cp, by rw [hbs, hL], h, hb.trans (hb'.mono hb.size)⟩
theorem rPut_b {w0 w : World} (m : Ch) (pn pk : Option Addr) (cn ck K : Nat) (num st : Int) (hb : Below w0.heap.size w0 w) (hR : RefAt w0 m pn pk K) (hok : m.Ok) (hn : m.num ≤ 1152921504606846976) (L : Nat) (bs : List Int) (hbs : putB m = bs) (hL : bs.length = L) (e1 : (m.num : Int) = num) (e2 : m.st = st) :
    Calls Try.prog 28 #[.agg #[.int .i64 num, .int .u64 st, .slice pn K cn, .slice pk K ck]] w fun e w' => ∃ p cp, e = .returned (.slice p L cp) ∧ B8 w' p L bs ∧ Below w0.heap.size w0 w' ∧ Below w.heap.size w w' := by
  rw [← e1, ← e2]
  refine (rPut_any m pn pk cn ck K w (hR.below hb) hok hn).mono ?_
  rintro e w' ⟨p, cp, rfl, h, _, hb'⟩
  rw [hbs, hL] at h
  exact ⟨p, cp, by rw [hbs, hL], h, hb.trans (hb'.mono hb.size), hb'⟩
theorem Same_bb {w0 w : World} (p q : Option Addr) (n : Nat) (xs : List Int) (c d : Nat) (hb : Below w0.heap.size w0 w) (hX : B8 w p n xs) (hY : B8 w q n xs) (hn : n ≤ 9223372036854775806) :
    Calls Try.prog 17 #[.slice p n c, .slice q n d] w fun e w' => e = .returned (.bool true) ∧ Below w0.heap.size w0 w' := by
  refine (SameBytes_yes p q n xs c d w hX hY hn).mono ?_
  rintro e w' ⟨rfl, hb'⟩
  exact ⟨rfl, hb.trans (hb'.mono hb.size)⟩
theorem rNext_as (m : Ch) (pn pk : Option Addr) (cn ck L : Nat) (w : World) (hok : m.Ok) (hnum : m.num ≤ 1152921504606846976) (m' : Ch) (x k : Int) (he : m.next = (m', x, k)) :
    Calls Try.prog 24 #[.agg #[.int .i64 m.num, .int .u64 m.st, .slice pn L cn, .slice pk L ck]] w fun e w' => e = .returned (.tuple #[.agg #[.int .i64 m'.num, .int .u64 m'.st, .slice pn L cn, .slice pk L ck], .int .i64 x, .int .u64 k]) ∧ m'.ks = m.ks ∧ Below w.heap.size w w' := by
  unfold Ch.next at he
  by_cases hz : m.st = 0
  · rw [if_pos hz] at he
    injection he with h1 h2
    injection h2 with h2 h3
    subst h1; subst h2; subst h3
    rw [hz]
    refine (rNext_zero m.num pn pk L cn L ck w).mono ?_
    rintro e w' ⟨rfl, hb⟩
    exact ⟨rfl, rfl, hb⟩
  · rw [if_neg hz] at he
    injection he with h1 h2
    injection h2 with h2 h3
    subst h1; subst h2; subst h3
    refine (rNext_some m.num m.st pn pk L cn L ck w (by omega) hok.st64 hz).mono ?_
    rintro e w' ⟨rfl, hb⟩
    exact ⟨rfl, rfl, hb⟩
theorem rNext_q (m : Ch) (pn pk : Option Addr) (cn ck L : Nat) (w : World) (hok : m.Ok) (hnum : m.num ≤ 1152921504606846976) (m' : Ch) (x k nj sj nn ss : Int) (he : m.next = (m', x, k)) (e1 : (m.num : Int) = nj) (e2 : m.st = sj) (f1 : (m'.num : Int) = nn) (f2 : m'.st = ss) :
    Calls Try.prog 24 #[.agg #[.int .i64 nj, .int .u64 sj, .slice pn L cn, .slice pk L ck]] w fun e w' => e = .returned (.tuple #[.agg #[.int .i64 nn, .int .u64 ss, .slice pn L cn, .slice pk L ck], .int .i64 x, .int .u64 k]) ∧ Hid (m'.ks = m.ks) ∧ Below w.heap.size w w' := by
  rw [← e1, ← e2, ← f1, ← f2]
  refine (rNext_as m pn pk cn ck L w hok hnum m' x k he).mono ?_
  rintro e w' ⟨h1, h2, h3⟩
  exact ⟨h1, Lib.hid h2, h3⟩
theorem rShut_q (m : Ch) (p q : Option Addr) (n c k d : Nat) (w : World) (nj sj nn ss : Int) (e1 : (m.num : Int) = nj) (f1 : ((m.shut.num : Nat) : Int) = nn) (f2 : m.shut.st = ss) :
    Calls Try.prog 25 #[.agg #[.int .i64 nj, .int .u64 sj, .slice p n c, .slice q k d]] w fun e w' => e = .returned (.agg #[.int .i64 nn, .int .u64 ss, .slice none 0 0, .slice none 0 0]) ∧ Below w.heap.size w w' := by
  have h := rShut_any m.num sj p q n c k d w
  rw [← e1, ← f1, ← f2]
  exact h
theorem rKey_q (m : Ch) (pn pk : Option Addr) (cn ck L : Nat) (n : Int) (w : World) (hR : RefAt w m pn pk L) (hok : m.Ok) (hnum : m.num ≤ 1152921504606846976) (n0 : -9223372036854775808 ≤ n) (n1 : n ≤ 9223372036854775807) (m' : Ch) (k er nj sj nn ss : Int) (he : m.ask n = (m', k, er)) (e1 : (m.num : Int) = nj) (e2 : m.st = sj) (f1 : (m'.num : Int) = nn) (f2 : m'.st = ss) :
    Calls Try.prog 26 #[.agg #[.int .i64 nj, .int .u64 sj, .slice pn L cn, .slice pk L ck], .int .i64 n] w fun e w' => ∃ pn' pk' cn' ck' L', e = .returned (.tuple #[.agg #[.int .i64 nn, .int .u64 ss, .slice pn' L' cn', .slice pk' L' ck'], .int .u64 k, .int .i64 er]) ∧ RefAt w' m' pn' pk' L' ∧ FrP w pn pn' ∧ FrP w pk pk' ∧ Below w.heap.size w w' := by
  rw [← e1, ← e2, ← f1, ← f2]
  exact rKey_any m pn pk cn ck L n w hR hok hnum n0 n1 m' k er he
theorem putB_2000 {m : Ch} (hok : m.Ok) (hn : m.num ≤ 1152921504606846976) : (putB m).length ≤ 2000 := by
  have hst := hok.st64
  have hfew := hok.few
  have h1 := (sevens_len64 (n := 2 * m.num) (by omega)).2
  have h2 := (sevens_len64 (n := m.st.toNat) (by omega)).2
  have h3 := (sevens_len64 (n := 2 * m.ks.length) (by omega)).2
  have h4 := putKs_len m.ks (fun p hp => by
    have h1 := hok.low p hp
    have h2 := hok.val p hp
    omega)
  unfold putB
  simp only [List.length_append]
  omega
theorem keep4h {wl W : World} {z : Nat} {a b c d : Value} (h : Below wl.heap.size wl W) (hA : C4 wl z a b c d) :
    (W.cell? ⟨z, 0, none⟩ = some a ∧ W.cell? ⟨z, 1, none⟩ = some b ∧ W.cell? ⟨z, 2, none⟩ = some c ∧ W.cell? ⟨z, 3, none⟩ = some d) ∧ Below wl.heap.size wl W := by
  obtain ⟨h0, h1, h2, h3, _⟩ := (hA.below h).cells
  exact ⟨⟨h0, h1, h2, h3⟩, h⟩
set_option maxRecDepth 100000 in
set_option maxHeartbeats 16000000 in
theorem plays_walk (ep dev : Int) (pl : Option Addr) (nl : Nat) (xl : List Int) (cl : Nat) (w : World) (ep0 : 0 ≤ ep) (ep1 : ep < 18446744073709551616) (dev0 : -9223372036854775808 ≤ dev) (dev1 : dev ≤ 9223372036854775807) (hL : UI w pl nl xl) (_ : nl ≤ cl) (hnL : nl ≤ 9223372036854775807) (_ : pl = none → cl = 0) :
    Calls Try.prog 7 #[.int .u64 ep, .int .i64 dev, .slice pl nl cl] w fun e w' => e = .returned (.bool true) ∧ Below w.heap.size w w' := by
  obtain ⟨d, ed, hd⟩ := around_21 dev
  obtain ⟨m0, hm0⟩ : ∃ m0, Hid (Ch.new ep d = m0) := ⟨_, Lib.hid rfl⟩
  have hok0 : m0.Ok := by rw [← hm0.out]; exact Ch.Ok.new _ _
  have hn0 : m0.num = 0 := by rw [← hm0.out]; rfl
  have hk0 : m0.ks = [] := by rw [← hm0.out]; rfl
  have hs0 : Hid (secI chainL [ep, (d : Int)] = m0.st) := Lib.hid (by rw [← hm0.out]; rfl)
  have hk16 : (actsOf xl).length ≤ 16 := by unfold actsOf; rw [List.length_map, List.length_take]; omega
  have hall := actsOf_ok xl
  replace hok0 := Lib.hid hok0
  replace hn0 := Lib.hid hn0
  replace hk0 := Lib.hid hk0
  go_enter Try.func7, Try.ntmps7
  go_wp2_with fail
  refine (Around_any dev 21 _ dev0 dev1 (by omega) (by omega)).mono ?_
  rintro e w1 ⟨rfl, rfl⟩
  rw [ed.out]
  go_wp2_with fail
  refine (New_as ep d _ ep0 ep1 hd _ hm0.out).mono ?_
  rintro e w1 ⟨c1, b1, rfl, hX, hc1, hbb1, hb⟩
  have hL1 := hL.below hb
  clear hL
  go_wp2_with fail
  refine (rNew_any ep d _ ep0 ep1 hd).mono ?_
  rintro e w2 ⟨rfl, hb2⟩
  rw [hs0.out]
  have hX2 := hX.below hb2
  have hL2 := hL1.below hb2
  have hb20 := hb.trans (hb2.mono hb.size)
  clear hX hL1 hb hb2
  have hC0 := C4.new w2 (.int .i64 0) (.int .u64 0) (.slice none 0 0) (.slice none 0 0)
  obtain ⟨k0, k1, k2, k3, _⟩ := hC0.cells
  have hbC := Below.lit w2 (.cells #[.int .i64 0, .int .u64 m0.st, .slice none 0 0, .slice none 0 0] 46)
  have hC3 := C4.new w2 (.int .i64 0) (.int .u64 m0.st) (.slice none 0 0) (.slice none 0 0)
  have hX3 := hX2.below hbC
  have hL3 := hL2.below hbC
  have hlc : c1 < w2.heap.size ∧ b1 < w2.heap.size := ⟨hX2.lt, hX2.map.lt⟩
  have hb30 := hb20.trans (hbC.mono hb20.size)
  have hzw : w.heap.size ≤ w2.heap.size := hb20.size
  clear hX2 hL2 hb20 hC0
  go_wp2_with fail
  generalize w2.alloc (.cells #[.int .i64 0, .int .u64 m0.st, .slice none 0 0, .slice none 0 0] 46) = w3 at *
  obtain ⟨z, hzz⟩ : ∃ z, z = w2.heap.size := ⟨_, rfl⟩
  rw [← hzz] at hC3 hlc hzw ⊢
  clear hzz hbC k0 k1 k2 k3
  have hD : z ≠ c1 ∧ z ≠ b1 := by omega
  refine (Acts_any _ _ _ _ _ hL3 hnL).mono ?_
  rintro e w4 ⟨qa, k, ca, rfl, hA, hkm, hF, hb4⟩
  have hX4 := hX3.below hb4
  have hC4 := hC3.below hb4
  have hfx : ∀ a, qa = some a → (a.block ≠ c1 ∧ a.block ≠ b1) ∧ a.block ≠ z := fun a ha => by have := hF a ha; have := hX3.lt; have := hX3.map.lt; have := hC3.lt; omega
  have hb40 := hb30.trans (hb4.mono hb30.size)
  have hl := hA.len
  clear hX3 hL3 hb30 hb4 hF hC3
  generalize actsOf xl = acs at *
  replace hl := Lib.hid hl
  replace hall := Lib.hid hall
  go_wp2_with fail
  go_loopw [11] (fun i W => ∃ (j : Nat) (mj : Ch) (pn pk : Option Addr) (cn ck L : Nat) (nn ss : Int), j ≤ k ∧ i = .int .i64 j ∧ Hid (m0.acts (acs.take j) = mj) ∧ Hid ((mj.num : Int) = nn) ∧ Hid (mj.st = ss) ∧ ChAt W c1 b1 mj ∧ C4 W z (.int .i64 nn) (.int .u64 ss) (.slice pn L cn) (.slice pk L ck) ∧ RefAt W mj pn pk L ∧ Off c1 b1 z pn ∧ Off c1 b1 z pk ∧ Ac W qa k acs ∧ Below w.heap.size w W)
    (fun i _ => k - (intOf i).toNat)
  case atStart =>
    exact ⟨0, m0, none, none, 0, 0, 0, 0, m0.st, by omega, rfl, Lib.hid rfl, Lib.hid (by rw [hn0.out]; rfl), Lib.hid rfl, hX4, hC4, ⟨by rw [hk0.out]; rfl, by rw [hk0.out]; exact ⟨rfl, .nil, fun _ h => by cases h⟩, by rw [hk0.out]; exact U.nil⟩, Off.none _ _ _, Off.none _ _ _, hA, hb40⟩
  case round =>
    clear hX4 hC4 hA hb40
    obtain ⟨j, mj, pn, pk, cn, ck, L, nj, sj, hj, rfl, hmj, hnj, hsj, hX, hC, hR, hoN, hoK, hA, hb⟩ := hrel
    by_cases hlt : j < k
    · obtain ⟨hok, hnum⟩ := hok0.out.acts (acs.take j)
      have htl : (acs.take j).length ≤ 16 := by rw [List.length_take]; omega
      have hsn := m0.acts_snoc (acs.take j) (ac acs j)
      have htk : acs.take (j + 1) = acs.take j ++ [ac acs j] := by
        have hj' : j < acs.length := by rw [hl.out]; exact hlt
        rw [List.take_succ_eq_append_getElem hj', ac_eq hj']
      have hao := hall.out (ac acs j) (by rw [ac_eq (by rw [hl.out]; exact hlt)]; exact List.getElem_mem _)
      rw [← htk, hmj.out] at hsn
      rw [hmj.out] at hok hnum
      have hnn0 := hn0.out
      have hnum2 : mj.num ≤ 1152921504606846976 := by omega
      obtain ⟨hok2, hnum3'⟩ := hok.act (ac acs j)
      obtain ⟨m', x, ky, er, he⟩ : ∃ m' x ky er, mj.act (ac acs j) = (m', x, ky, er) := ⟨_, _, _, _, rfl⟩
      rw [he] at hsn hok2 hnum3'
      dsimp only at hsn hok2 hnum3'
      have hnum3 : m'.num ≤ 1152921504606846976 := by omega
      clear htl hnum hnum3' hnn0
      obtain ⟨bl, ol, rfl, _, hc1', hc2''⟩ := hA.look hlt
      obtain ⟨z0, z1, z2, z3, f0, f1, f2, f3⟩ := hC.cells
      have hlz := hC.lt
      obtain ⟨nn, hnn⟩ : ∃ nn, Hid ((m'.num : Int) = nn) := ⟨_, Lib.hid rfl⟩
      obtain ⟨ss, hss⟩ : ∃ ss, Hid (m'.st = ss) := ⟨_, Lib.hid rfl⟩
      obtain ⟨PB, hPB⟩ : ∃ PB, Hid (putB m' = PB) := ⟨_, Lib.hid rfl⟩
      obtain ⟨PL, hPL⟩ : ∃ PL, Hid (PB.length = PL) := ⟨_, Lib.hid rfl⟩
      obtain ⟨KN, hKN⟩ : ∃ KN, Hid (numsK m'.ks = KN) := ⟨_, Lib.hid rfl⟩
      replace hsn := Lib.hid hsn
      replace hok := Lib.hid hok
      replace hok2 := Lib.hid hok2
      replace htk := Lib.hid htk
      go_upto_region 13 with fail
      go_cut [40] from 36 to 40 (fun v wx => v = .int .i64 (ac acs j).1 ∧ wx = wr)
      case first =>
        go_wp2_with fail
        go_meet
        case rel => exact ⟨rfl, rfl⟩
      case rest =>
      obtain ⟨rfl, hwc⟩ := hcut
      subst hwc
      apply_assumption
      obtain ⟨wr, rfl⟩ : ∃ wr : World, wr = wc := ⟨_, rfl⟩
      go_cut [12, 13, 14] from 41 to 63 (fun vn vk ve wx => ∃ pn' pk' cn' ck' L', vn = .int .i64 x ∧ vk = .int .u64 ky ∧ ve = .int .i64 er ∧ C4 wx z (.int .i64 nn) (.int .u64 ss) (.slice pn' L' cn') (.slice pk' L' ck') ∧ RefAt wx m' pn' pk' L' ∧ Off c1 b1 z pn' ∧ Off c1 b1 z pk' ∧ ChAt wx c1 b1 mj ∧ Ac wx (some ⟨bl, ol, none⟩) k acs ∧ Below w.heap.size w wx)
      case first =>
        rcases hao.1 with hdo | hdo | hdo
        · have hask : Hid (mj.ask (ac acs j).2 = (m', ky, er)) ∧ Hid (x = 0) := by
            unfold Ch.act at he
            rw [if_neg (by rw [hdo]; decide), if_neg (by rw [hdo]; decide)] at he
            injection he with h1 h2
            injection h2 with h2 h3
            injection h3 with h3 h4
            exact ⟨Lib.hid (by rw [← h1, ← h3, ← h4]), Lib.hid h2.symm⟩
          obtain ⟨hask, hx0⟩ := hask
          have td1 : ((ac acs j).1 == 1) = false := beq_eq_false_iff_ne.2 (by rw [hdo]; decide)
          have td2 : ((ac acs j).1 == 2) = false := beq_eq_false_iff_ne.2 (by rw [hdo]; decide)
          have ha0 := hao.2.1
          have ha1 := hao.2.2
          replace he := Lib.hid he
          replace hdo := Lib.hid hdo
          have hdr : Below wr.heap.size wr wr.drew := (Below.refl _ _).drew
          go_upto_region 14 with fail
          go_region_with (go_at_call 26; (with_reducible refine (rKey_q mj pn pk cn ck L (ac acs j).2 _ (hR.below hdr) hok.out hnum2 (by omega) (by omega) m' ky er nj sj nn ss hask.out hnj.out hsj.out hnn.out hss.out).mono ?_); rintro e w5 ⟨pn', pk', cn', ck', L', rfl, hR5, hfn, hfk, hb5⟩; have hC5 := (hC.below hdr).below hb5; obtain ⟨g0, g1, g2, g3, h0, h1, h2, h3⟩ := hC5.cells; obtain ⟨w6, hw6, hC6, hT6⟩ := hC5.to (.int .i64 nn) (.int .u64 ss) (.slice pn' L' cn') (.slice pk' L' ck'))
          all_goals (go_wp2_with fail; go_meet)
          all_goals
            have hbx := hdr.trans hb5
            have oN := hoN.fr hfn hX.lt hX.map.lt hlz
            have oK := hoK.fr hfk hX.lt hX.map.lt hlz
            exact ⟨pn', pk', cn', ck', L', by rw [hx0.out], rfl, rfl, hC6, hR5.two hT6 (fun a ha => ⟨(oN a ha).2, (oN a ha).2⟩) (fun a ha => ⟨(oK a ha).2, (oK a ha).2⟩), oN, oK, (hX.below hbx).two hT6 ⟨fun e => hD.1 e.symm, fun e => hD.1 e.symm⟩ ⟨fun e => hD.2 e.symm, fun e => hD.2 e.symm⟩, (hA.below hbx).two hT6 (fun a ha => ⟨(hfx a ha).2, (hfx a ha).2⟩), Two.below0 (hb.trans (hbx.mono hb.size)) hT6 hzw hzw⟩
        · have hnx : Hid (mj.next = (m', x, ky)) ∧ Hid (er = 0) := by
            unfold Ch.act at he
            rw [if_pos hdo] at he
            injection he with h1 h2
            injection h2 with h2 h3
            injection h3 with h3 h4
            exact ⟨Lib.hid (by rw [← h1, ← h2, ← h3]), Lib.hid h4.symm⟩
          obtain ⟨hnx, her⟩ := hnx
          have td1 : ((ac acs j).1 == 1) = true := beq_iff_eq.2 hdo
          replace he := Lib.hid he
          replace hdo := Lib.hid hdo
          go_wp2_with fail
          refine (rNext_q mj pn pk cn ck L _ hok.out hnum2 m' x ky nj sj nn ss hnx.out hnj.out hsj.out hnn.out hss.out).mono ?_
          rintro e w5 ⟨rfl, hks, hb5⟩
          have hC5 := hC.below hb5
          clear z0 z1 z2 z3 f0 f1 f2 f3
          obtain ⟨z0, z1, z2, z3, f0, f1, f2, f3⟩ := hC5.cells
          obtain ⟨w6, hw6, hC6, hT6⟩ := hC5.to (.int .i64 nn) (.int .u64 ss) (.slice pn L cn) (.slice pk L ck)
          have hX6 := (hX.below hb5).two hT6 ⟨fun e => hD.1 e.symm, fun e => hD.1 e.symm⟩ ⟨fun e => hD.2 e.symm, fun e => hD.2 e.symm⟩
          have hR6 := ((hR.below hb5).ks hks.out).two hT6 (fun a ha => ⟨(hoN a ha).2, (hoN a ha).2⟩) (fun a ha => ⟨(hoK a ha).2, (hoK a ha).2⟩)
          have hA6 := (hA.below hb5).two hT6 (fun a ha => ⟨(hfx a ha).2, (hfx a ha).2⟩)
          have hb6 := Two.below0 (hb.trans (hb5.mono hb.size)) hT6 hzw hzw
          clear hX hC hR hA hb hb5 hC5 hT6 hc1' hc2''
          go_wp2_with fail
          go_meet
          case rel => exact ⟨pn, pk, cn, ck, L, rfl, rfl, by rw [her.out], hC6, hR6, hoN, hoK, hX6, hA6, hb6⟩
        · have hnx : Hid (m' = mj.shut) ∧ Hid (x = 0 ∧ ky = 0 ∧ er = 0) := by
            unfold Ch.act at he
            rw [if_neg (by rw [hdo]; decide), if_pos hdo] at he
            injection he with h1 h2
            injection h2 with h2 h3
            injection h3 with h3 h4
            exact ⟨Lib.hid h1.symm, Lib.hid ⟨h2.symm, h3.symm, h4.symm⟩⟩
          obtain ⟨hms, hx0⟩ := hnx
          have td1 : ((ac acs j).1 == 1) = false := beq_eq_false_iff_ne.2 (by rw [hdo]; decide)
          have td2 : ((ac acs j).1 == 2) = true := beq_iff_eq.2 hdo
          replace he := Lib.hid he
          replace hdo := Lib.hid hdo
          go_wp2_with fail
          refine (rShut_q mj pn pk L cn L ck _ nj sj nn ss hnj.out (by rw [← hms.out]; exact hnn.out) (by rw [← hms.out]; exact hss.out)).mono ?_
          rintro e w5 ⟨rfl, hb5⟩
          have hC5 := hC.below hb5
          clear z0 z1 z2 z3 f0 f1 f2 f3
          obtain ⟨z0, z1, z2, z3, f0, f1, f2, f3⟩ := hC5.cells
          obtain ⟨w6, hw6, hC6, hT6⟩ := hC5.to (.int .i64 nn) (.int .u64 ss) (.slice none 0 0) (.slice none 0 0)
          have hX6 := (hX.below hb5).two hT6 ⟨fun e => hD.1 e.symm, fun e => hD.1 e.symm⟩ ⟨fun e => hD.2 e.symm, fun e => hD.2 e.symm⟩
          have hR6 : RefAt w6 m' none none 0 := by rw [hms.out]; exact ⟨rfl, ⟨rfl, .nil, fun _ h => by cases h⟩, U.nil⟩
          have hA6 := (hA.below hb5).two hT6 (fun a ha => ⟨(hfx a ha).2, (hfx a ha).2⟩)
          have hb6 := Two.below0 (hb.trans (hb5.mono hb.size)) hT6 hzw hzw
          clear hX hC hR hA hb hb5 hC5 hT6 hc1' hc2''
          go_wp2_with fail
          go_meet
          case rel => exact ⟨none, none, 0, 0, 0, by rw [hx0.out.1], by rw [hx0.out.2.1], by rw [hx0.out.2.2], hC6, hR6, Off.none _ _ _, Off.none _ _ _, hX6, hA6, hb6⟩
      case rest =>
      obtain ⟨pn', pk', cn', ck', L', rfl, rfl, rfl, hC6, hR6, hoN2, hoK2, hX6, hA6, hb6⟩ := hcut
      obtain ⟨w6, rfl⟩ : ∃ w6 : World, w6 = wc := ⟨_, rfl⟩
      clear z0 z1 z2 z3 f0 f1 f2 f3 hX hC hR hA hb hc1' hc2''
      obtain ⟨z0, z1, z2, z3, _⟩ := hC6.cells
      have hR7L := Lib.hid hR6.1
      have hL63 : L' ≤ 9223372036854775806 := by have := hR7L.out; have := hok2.out.few; omega
      have hPL63 : PL ≤ 9223372036854775806 := by have := putB_2000 hok2.out hnum3; rw [hPB.out, hPL.out] at this; omega
      replace he := Lib.hid he
      obtain ⟨hc1', hc2''⟩ := hA6.cell hlt
      go_wp2_with fail
      refine (does_any c1 b1 mj (ac acs j) _ hX6 hok.out hnum2 hao _ _ _ _ he.out).mono ?_
      rintro e w7 ⟨rfl, hX7, hT7⟩
      have hC7 := hC6.two hT7 hD.1 hD.2
      have hR7 := hR6.two hT7 (fun a ha => (hoN2 a ha).1) (fun a ha => (hoK2 a ha).1)
      have hA7 := hA6.two hT7 (fun a ha => (hfx a ha).1)
      have hb7 := Two.below0 hb6 hT7 hc1 hbb1
      clear hX6 hC6 hR6 hA6 hT7 hb6 hc1' hc2'' z0 z1 z2 z3
      have t0 : (x != x) = false := bne_self_eq_false _
      have t1 : (ky != ky) = false := bne_self_eq_false _
      have t2 : (er != er) = false := bne_self_eq_false _
      have t3 : (nn != nn) = false := bne_self_eq_false _
      obtain ⟨z0, z1, z2, z3, _⟩ := hC7.cells
      have hR7N := hR7.2.1
      rw [hKN.out] at hR7N
      have hbd : Below w7.heap.size w7 w7.drew := (Below.refl _ _).drew
      go_wp2_with fail
      go_region_held3 (fun W => (W.cell? ⟨z, 0, none⟩ = some (.int .i64 nn) ∧ W.cell? ⟨z, 1, none⟩ = some (.int .u64 ss) ∧ W.cell? ⟨z, 2, none⟩ = some (.slice pn' L' cn') ∧ W.cell? ⟨z, 3, none⟩ = some (.slice pk' L' ck')) ∧ Below w7.heap.size w7 W) (exact keep4h (by assumption) hC7) (first
        | (go_simp; go_at_call 19; (with_reducible refine (At_b (w0 := w7) c1 b1 m' (by assumption) hX7 nn hnn.out).mono ?_); rintro e w8 ⟨rfl, rfl⟩)
        | (go_simp; go_at_call 21; (with_reducible refine (Kept_bb (w0 := w7) c1 b1 m' (by assumption) hX7 hok2.out hnum3 L' KN hR7L.out hKN.out).mono ?_); rintro e w9 ⟨p9, c9, rfl, h9, hb9⟩)
        | (go_simp; go_at_call 20; (with_reducible refine (SameInts_b (w0 := w7) _ _ L' KN _ _ (by assumption) h9 hR7N hL63).mono ?_); rintro e w10 ⟨rfl, hb10⟩)
        | (go_simp; go_at_call 18; (with_reducible refine (Put_bb (w0 := w7) c1 b1 m' (by assumption) hX7 hok2.out hnum3 PL PB hPB.out hPL.out).mono ?_); rintro e w11 ⟨p11, c11, rfl, h11, hb11⟩)
        | (go_simp; go_at_call 28; (with_reducible refine (rPut_b (w0 := w7) m' pn' pk' cn' ck' L' nn ss (by assumption) hR7 hok2.out hnum3 PL PB hPB.out hPL.out hnn.out hss.out).mono ?_); rintro e w12 ⟨p12, c12, rfl, h12, hb12, hbx12⟩; have h112 := h11.below hbx12)
        | (go_simp; go_at_call 17; (with_reducible refine (Same_bb (w0 := w7) _ _ PL PB _ _ (by assumption) h112 h12 hPL63).mono ?_); rintro e w13 ⟨rfl, hb13⟩)
        | fail)
      all_goals
        have hbn : Below w7.heap.size w7 w13 := by assumption
        have hX9 := hX7.below hbn
        have hC9 := hC7.below hbn
        have hR9 := hR7.below hbn
        have hA9 := hA7.below hbn
        have hb9' := hb7.trans (hbn.mono hb7.size)
        clear hX7 hC7 hR7 hA7 hb7 hbn
        go_wp2_with fail
        go_roundw
        case rel => exact ⟨j + 1, m', pn', pk', cn', ck', L', nn, ss, by omega, by go_num, hsn, hnn, hss, hX9, hC9, hR9, hoN2, hoK2, hA9, hb9'⟩
        case measure => simp [intOf]; omega
    · obtain rfl : j = k := by omega
      clear hX hC hR hA
      go_wp2_with fail
      refine (lives_any _).mono ?_
      rintro e w7 ⟨rfl, hb7⟩
      go_wp2_with fail
      go_ret
      exact ⟨rfl, hb.trans (hb7.mono hb.size)⟩
end Go.Proofs.Ytcnhgkgabddjmaa
