/-
  Chains of keys (7): what lies beside a chain; the document's example.
-/
import Derived.Test.YtcnhgkgabddjmaaChF
namespace Go.Proofs.Ytcnhgkgabddjmaa
open Go.RowKit Go.Maps

theorem cell_same {w w' : World} {a : Addr} (h : w'.heap[a.block]? = w.heap[a.block]?) : w'.cell? a = w.cell? a := by unfold World.cell?; rw [h]
theorem Rd.same {w w' : World} {p : Option Addr} {xs : List Value} (h : Rd w p xs) (hs : ∀ a, p = some a → w'.heap[a.block]? = w.heap[a.block]?) : Rd w' p xs := by
  rcases h with h | ⟨b, off, hp, hc⟩
  · exact .inl h
  · have h1 := hs _ hp
    exact .inr ⟨b, off, hp, fun i hi => (cell_same (a := ⟨b, off + i, none⟩) h1).trans (hc i hi)⟩
theorem Rd.lt {w : World} {p : Option Addr} {xs : List Value} (h : Rd w p xs) (hx : xs ≠ []) : ∀ a, p = some a → a.block < w.heap.size := by
  rcases h with h | ⟨b, off, hp, hc⟩
  · exact absurd h hx
  · intro a ha
    rw [hp] at ha
    injection ha with ha
    subst ha
    have : 0 < xs.length := List.length_pos_iff.2 hx
    exact cell_lt (hc 0 this)
/-- A slice is untouched by what turns a chain alone, if it lies elsewhere. -/
theorem Rd.two {w w' : World} {c b : Nat} {p : Option Addr} {xs : List Value} (h : Rd w p xs) (hT : Two w w' c b) (hf : ∀ a, p = some a → a.block ≠ c ∧ a.block ≠ b) : Rd w' p xs := by
  by_cases hx : xs = []
  · exact .inl hx
  · exact h.same fun a ha => hT.blk _ (h.lt hx a ha) (hf a ha).1 (hf a ha).2
theorem UI.two {w w' : World} {c b : Nat} {p : Option Addr} {n : Nat} {xs : List Int} (h : UI w p n xs) (hT : Two w w' c b) (hf : ∀ a, p = some a → a.block ≠ c ∧ a.block ≠ b) : UI w' p n xs := ⟨h.len, h.rd.two hT hf, h.bd⟩
theorem U.two {w w' : World} {c b : Nat} {p : Option Addr} {n : Nat} {xs : List Int} (h : U w p n xs) (hT : Two w w' c b) (hf : ∀ a, p = some a → a.block ≠ c ∧ a.block ≠ b) : U w' p n xs := ⟨h.len, h.rd.two hT hf, h.bd⟩
theorem UI.rd_lt {w : World} {p : Option Addr} {n : Nat} {xs : List Int} (h : UI w p n xs) (hn : n ≠ 0) : ∀ a, p = some a → a.block < w.heap.size :=
  h.rd.lt fun e => hn (by have := h.len; rw [List.map_eq_nil_iff] at e; subst e; exact this.symm)
theorem KeptM.same {w w' : World} {b : Nat} {ks : List (Int × Int)} (h : KeptM w b ks) (hs : w'.heap[b]? = w.heap[b]?) : KeptM w' b ks := by
  obtain ⟨n, D, ⟨es, clock, h1, h2, h3, h4⟩, hD, hn⟩ := h
  exact ⟨n, D, ⟨es, clock, hs.trans h1, h2, h3, h4⟩, hD, hn⟩
/-- The other chain. -/
theorem ChAt.two {w w' : World} {c b c2 b2 : Nat} {m : Ch} (h : ChAt w c2 b2 m) (hT : Two w w' c b) (h1 : c2 ≠ c ∧ c2 ≠ b) (h2 : b2 ≠ c ∧ b2 ≠ b) : ChAt w' c2 b2 m :=
  ⟨(hT.blk c2 h.lt h1.1 h1.2).trans h.blk, h.map.same (hT.blk b2 h.map.lt h2.1 h2.2)⟩

theorem Key_as (c b : Nat) (m : Ch) (n : Int) (w : World) (hC : ChAt w c b m) (hn : m.num ≤ 1152921504606846976) (hok : m.Ok) (n0 : -9223372036854775808 ≤ n) (n1 : n ≤ 9223372036854775807) (m' : Ch) (k er : Int) (he : m.ask n = (m', k, er)) :
    Calls Try.prog 14 #[.pointer (some ⟨c, 0, none⟩), .int .i64 n] w fun e w' => e = .returned (.tuple #[.int .u64 k, .int .i64 er]) ∧ ChAt w' c b m' ∧ Two w w' c b := by
  have h := Key_any c b m n w hC hn hok n0 n1
  rw [he] at h
  exact h
theorem New_as (ep : Int) (d : Nat) (w : World) (h0 : 0 ≤ ep) (h1 : ep < 18446744073709551616) (hd : d ≤ 1000) (m : Ch) (hm : Ch.new ep d = m) :
    Calls Try.prog 12 #[.int .u64 ep, .int .i64 d] w fun e w' => ∃ c b, e = .returned (.pointer (some ⟨c, 0, none⟩)) ∧ ChAt w' c b m ∧ w.heap.size ≤ c ∧ w.heap.size ≤ b ∧ Below w.heap.size w w' := by
  have h := New_any ep d w h0 h1 hd
  rw [hm] at h
  exact h
theorem UI_lit (w : World) (t : TypeId) (xs : List Int) (vs : Array Value) (n : Nat) (hv : vs = (xs.map (Value.int .i64)).toArray) (hn : xs.length = n) (hx : ∀ x ∈ xs, -9223372036854775808 ≤ x ∧ x ≤ 9223372036854775807) : UI (w.alloc (.cells vs t)) (some ⟨w.heap.size, 0, none⟩) n xs :=
  ⟨hn, by rw [hv]; exact (Arr.new w t _).rd, hx⟩
/-- What the document's example does. -/
theorem lives_plain (m : Ch) (h0 : m.num = 0) (hs : m.st ≠ 0) (hk : m.ks = []) (hok : m.Ok) : ∃ s k0 k1 k2, m.ask 2 = (⟨3, s, [(0, k0), (1, k1)]⟩, k2, 0) ∧ (Ch.mk 3 s [(0, k0), (1, k1)]).ask 1 = (⟨3, s, [(0, k0)]⟩, k1, 0) ∧
    (Ch.mk 3 s [(0, k0)]).ask 1 = (⟨3, s, [(0, k0)]⟩, 0, 24) ∧ (Ch.mk 3 s [(0, k0)]).ask 2 = (⟨3, s, [(0, k0)]⟩, 0, 24) ∧ (Ch.mk 3 s [(0, k0), (1, k1)]).Ok ∧ (Ch.mk 3 s [(0, k0)]).Ok := by
  obtain ⟨num, st, ks⟩ := m
  change num = 0 at h0
  change ks = [] at hk
  subst h0; subst hk
  obtain ⟨x, hx⟩ : ∃ x, Ch.fill ⟨0, st, []⟩ 2 = x := ⟨_, rfl⟩
  have hst : secI nextL [x.st] ≠ 0 := by have := secI_bd nextL [x.st]; omega
  have e1 : (Ch.mk 0 st []).ask 2 = (⟨3, secI nextL [x.st], [(0, (Ch.fill ⟨0, st, []⟩ 0).key), (1, (Ch.fill ⟨0, st, []⟩ 1).key)]⟩, (Ch.fill ⟨0, st, []⟩ 2).key, 0) := by
    rw [Ch.ask_ok hs rfl (by show ¬ (2 : Int) < ((0 : Nat) : Int); omega) (by show ¬ (50 : Int) - (([] : List (Int × Int)).length : Int) < 2 - ((0 : Nat) : Int); simp), ← hx]; rfl
  have e2 : (Ch.mk 3 (secI nextL [x.st]) [(0, (Ch.fill ⟨0, st, []⟩ 0).key), (1, (Ch.fill ⟨0, st, []⟩ 1).key)]).ask 1 = (⟨3, secI nextL [x.st], [(0, (Ch.fill ⟨0, st, []⟩ 0).key)]⟩, (Ch.fill ⟨0, st, []⟩ 1).key, 0) := by
    rw [Ch.ask_some (v := (Ch.fill ⟨0, st, []⟩ 1).key) hst rfl]; rfl
  have a1 := (hok.ask 2).1
  rw [e1] at a1
  have a2 := (Ch.Ok.ask a1 1).1
  rw [show (Ch.mk 3 (secI nextL [x.st]) [(0, (Ch.fill ⟨0, st, []⟩ 0).key), (1, (Ch.fill ⟨0, st, []⟩ 1).key)]).ask 1 = _ from e2] at a2
  refine ⟨_, _, _, _, e1, e2, ?_, ?_, a1, a2⟩
  · exact Ch.ask_used hst rfl (by show (1 : Int) < ((3 : Nat) : Int); omega)
  · exact Ch.ask_used hst rfl (by show (2 : Int) < ((3 : Nat) : Int); omega)
set_option maxRecDepth 100000 in
set_option maxHeartbeats 2000000 in
theorem lives_any (w : World) : Calls Try.prog 16 #[] w fun e w' => e = .returned (.bool true) ∧ Below w.heap.size w w' := by
  obtain ⟨m, hm⟩ : ∃ m, Ch.new 9 ((2 : Nat) : Int) = m := ⟨_, rfl⟩
  have hok := Ch.Ok.new 9 ((2 : Nat) : Int)
  have hm0 : m.num = 0 := by rw [← hm]; rfl
  have hms : m.st ≠ 0 := by rw [← hm]; show secI chainL [9, ((2 : Nat) : Int)] ≠ 0; have := secI_bd chainL [9, ((2 : Nat) : Int)]; omega
  have hmk : m.ks = [] := by rw [← hm]; rfl
  rw [hm] at hok
  obtain ⟨s, k0, k1, k2, e1, e2, e3, e4, o1, o2⟩ := lives_plain m hm0 hms hmk hok
  replace hm := Lib.hid hm
  replace e1 := Lib.hid e1
  replace e2 := Lib.hid e2
  replace e3 := Lib.hid e3
  replace e4 := Lib.hid e4
  have hmn : m.num ≤ 1152921504606846976 := by omega
  clear hms hmk hm0
  go_enter Try.func16, Try.ntmps16
  go_wp2_with fail
  refine (New_as 9 2 _ (by omega) (by omega) (by omega) m hm.out).mono ?_
  rintro e w1 ⟨c, b, rfl, hC1, hc, hbb, hb1⟩
  go_wp2_with fail
  refine (Key_as c b m 2 _ hC1 hmn hok (by omega) (by omega) _ _ _ e1.out).mono ?_
  rintro e w2 ⟨rfl, hC2, hT2⟩
  have hb2 := hb1.trans (hT2.below hc hbb hb1.size)
  clear hC1 hT2 hb1
  go_wp2_with fail
  refine (Kept_any c b _ _ hC2 o1 (by simp only; omega)).mono ?_
  rintro e w3 ⟨p3, c3, rfl, h3, hf3, hb3⟩
  have hC3 := hC2.below hb3
  have hL3 : c < w2.heap.size ∧ b < w2.heap.size := ⟨hC2.lt, hC2.map.lt⟩
  have hf3' : ∀ a, p3 = some a → a.block ≠ c ∧ a.block ≠ b := fun a h => by have := hf3 a h; omega
  have hb30 := hb2.trans (hb3.mono hb2.size)
  clear hC2 hb3 hb2 hL3 hf3
  go_wp2_with fail
  refine (At_any c b _ _ hC3).mono ?_
  rintro e w4 ⟨rfl, rfl⟩
  go_wp2_with fail
  refine (Key_as c b _ 1 _ hC3 (by simp only; omega) o1 (by omega) (by omega) _ _ _ e2.out).mono ?_
  rintro e w5 ⟨rfl, hC5, hT5⟩
  have h5 := h3.two hT5 hf3'
  have hb5 := hb30.trans (hT5.below hc hbb hb30.size)
  clear hC3 hT5 hb30 h3
  go_wp2_with fail
  refine (Key_as c b _ 1 _ hC5 (by simp only; omega) o2 (by omega) (by omega) _ _ _ e3.out).mono ?_
  rintro e w6 ⟨rfl, hC6, hT6⟩
  have h6 := h5.two hT6 hf3'
  have hb6 := hb5.trans (hT6.below hc hbb hb5.size)
  clear hC5 hT6 hb5 h5
  go_wp2_with fail
  refine (Key_as c b _ 2 _ hC6 (by simp only; omega) o2 (by omega) (by omega) _ _ _ e4.out).mono ?_
  rintro e w7 ⟨rfl, hC7, hT7⟩
  have h7 := h6.two hT7 hf3'
  have hb7 := hb6.trans (hT7.below hc hbb hb6.size)
  clear hC6 hT7 hb6 h6
  have hL8 := UI_lit w7 3 [0, 1] #[.int .i64 0, .int .i64 1] 2 rfl rfl (by decide)
  have hl8 := Below.lit w7 (.cells #[.int .i64 0, .int .i64 1] 3)
  have h8 := h7.below hl8
  have hC8 := hC7.below hl8
  have hb8 := hb7.trans (hl8.mono hb7.size)
  clear h7 hC7 hl8 hb7
  go_wp2_with fail
  refine (SameInts_yes _ _ 2 [0, 1] _ _ _ h8 hL8 (by omega)).mono ?_
  rintro e w9 ⟨rfl, hb9⟩
  have hC9 := hC8.below hb9
  have hb90 := hb8.trans (hb9.mono hb8.size)
  clear h8 hC8 hL8 hb9 hb8
  go_wp2_with fail
  refine (Kept_any c b _ _ hC9 o2 (by simp only; omega)).mono ?_
  rintro e w10 ⟨p10, c10, rfl, h10, hf10, hb10⟩
  have hb100 := hb90.trans (hb10.mono hb90.size)
  clear hC9 hb10 hb90
  have hL11 := UI_lit w10 3 [0] #[.int .i64 0] 1 rfl rfl (by decide)
  have hl11 := Below.lit w10 (.cells #[.int .i64 0] 3)
  have h11 := h10.below hl11
  have hb11 := hb100.trans (hl11.mono hb100.size)
  clear h10 hl11 hb100
  go_wp2_with fail
  refine (SameInts_yes _ _ 1 [0] _ _ _ h11 hL11 (by omega)).mono ?_
  rintro e w12 ⟨rfl, hb12⟩
  have hb := hb11.trans (hb12.mono hb11.size)
  clear hL11 h11 hb12 hb11
  go_wp2_with fail
  go_ret
  exact ⟨rfl, hb⟩
end Go.Proofs.Ytcnhgkgabddjmaa
