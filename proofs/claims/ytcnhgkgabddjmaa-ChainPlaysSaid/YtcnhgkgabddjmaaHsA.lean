/-
  Sums (1): words of bytes, plain; bytes in memory; the iterator over chunks, where there is one chunk alone.
-/
import Derived.Test.YtcnhgkgabddjmaaHsBase
import Derived.Lib.ConvBytes
import Derived.RegionIn
namespace Go.Proofs.Ytcnhgkgabddjmaa
open Go.RowKit Go.Shelf
attribute [local go_sem] Oper.semAt_some

/-- Bytes as a word, the first one least. -/
def wordI : List Int → Int
  | [] => 0
  | b :: bs => b + 256 * wordI bs
theorem word_snoc (bs : List Int) (x : Int) : wordI (bs ++ [x]) = wordI bs + x * 256 ^ bs.length := by
  induction bs with
  | nil => simp [wordI]
  | cons b bs ih => rw [List.cons_append, wordI, wordI, ih, List.length_cons, Int.pow_succ]; grind
theorem word_take {bs : List Int} {i : Nat} (h : i < bs.length) : wordI (bs.take (i + 1)) = wordI (bs.take i) + nth bs i * 256 ^ i := by
  rw [List.take_succ_eq_append_getElem h, word_snoc, List.length_take, Nat.min_eq_left (by omega), nth_eq h]
theorem word_drop {bs : List Int} {i : Nat} (h : i < bs.length) : wordI (bs.drop i) = nth bs i + 256 * wordI (bs.drop (i + 1)) := by
  rw [List.drop_eq_getElem_cons h, wordI, nth_eq h]
theorem word_bd : ∀ {bs : List Int}, (∀ x ∈ bs, 0 ≤ x ∧ x < 256) → 0 ≤ wordI bs ∧ wordI bs < 256 ^ bs.length
  | [], _ => by simp [wordI]
  | b :: bs, h => by
    have h1 := h b (List.mem_cons_self ..)
    have h2 := word_bd fun x hx => h x (List.mem_cons_of_mem b hx)
    rw [wordI, List.length_cons, Int.pow_succ]
    generalize (256 : Int) ^ bs.length = p at *
    omega
theorem or_comm64 (a b : Int) (ha0 : 0 ≤ a) (ha : a < 18446744073709551616) (hb0 : 0 ≤ b) (hb : b < 18446744073709551616) : bits .or .u64 a b = bits .or .u64 b a := by
  obtain ⟨x, rfl⟩ := Int.eq_ofNat_of_zero_le ha0
  obtain ⟨y, rfl⟩ := Int.eq_ofNat_of_zero_le hb0
  rw [(bits_nat .u64 64 (by decide) wraps64 x y (by omega) (by omega)).2, (bits_nat .u64 64 (by decide) wraps64 y x (by omega) (by omega)).2, Nat.or_comm]
theorem or_word {u x : Int} {i : Nat} (hi : i < 7) (hu0 : 0 ≤ u) (hu : u < 256 ^ i) (hx0 : 0 ≤ x) (hx : x < 256) : bits .or .u64 u (IntKind.u64.wrap (x * 2 ^ (8 * i))) = u + x * 256 ^ i := by
  have e : (256 : Int) ^ i = 2 ^ (8 * i) := by rw [Int.pow_mul]; rfl
  rw [e] at hu
  have h1 : x * 2 ^ (8 * i) < 18446744073709551616 ∧ 0 ≤ x * 2 ^ (8 * i) ∧ (2 : Int) ^ (8 * i) < 18446744073709551616 := by
    rcases (by omega : i = 0 ∨ i = 1 ∨ i = 2 ∨ i = 3 ∨ i = 4 ∨ i = 5 ∨ i = 6) with rfl | rfl | rfl | rfl | rfl | rfl | rfl <;> refine ⟨?_, ?_, ?_⟩ <;> omega
  obtain ⟨h2, h3, h4⟩ := h1
  have h5 : x * 2 ^ (8 * i) % 2 ^ (8 * i) = 0 := Int.mul_emod_left _ _
  rw [wraps64 _ h3 h2, e, or_comm64 _ _ hu0 (by omega) h3 h2, bits_join .u64 64 (by decide) wraps64 (8 * i) _ _ h3 h5 (by omega) hu0 hu (by omega), Int.add_comm]
/-- A slice that reads as bytes. -/
structure B8 (w : World) (p : Option Addr) (n : Nat) (bs : List Int) : Prop where
  len : bs.length = n
  rd : Rd w p (bs.map (Value.int .u8))
  bd : ∀ x ∈ bs, 0 ≤ x ∧ x < 256
theorem B8.below {w w' : World} {p : Option Addr} {n : Nat} {bs : List Int} (h : B8 w p n bs) (hb : Below w.heap.size w w') : B8 w' p n bs := ⟨h.len, h.rd.below hb, h.bd⟩
theorem B8.look {w : World} {p : Option Addr} {n : Nat} {bs : List Int} (h : B8 w p n bs) {i : Nat} (hi : i < n) :
    ∃ b off, p = some ⟨b, off, none⟩ ∧ b < w.heap.size ∧ w.cell? ⟨b, off + i, none⟩ = some (.int .u8 (nth bs i)) ∧ 0 ≤ nth bs i ∧ nth bs i < 256 := by
  have hi' : i < bs.length := by rw [h.len]; exact hi
  obtain ⟨b, off, hp, hb, hc⟩ := h.rd.here (i := i) (by simpa using hi')
  have hx := h.bd _ (nth_mem hi')
  refine ⟨b, off, hp, hb, ?_, hx⟩
  have := hc i (by simpa using hi')
  rwa [List.getElem_map, ← nth_eq hi'] at this
theorem B8.cell {w : World} {g n : Nat} {bs : List Int} (h : B8 w (some ⟨g, 0, none⟩) n bs) {i : Nat} (hi : i < n) : w.cell? ⟨g, i, none⟩ = some (.int .u8 (nth bs i)) ∧ 0 ≤ nth bs i ∧ nth bs i < 256 := by
  obtain ⟨b, off, he, _, hc, hx⟩ := h.look hi
  injection he with he
  injection he with h1 h2
  subst h1; subst h2
  rw [Nat.zero_add] at hc
  exact ⟨hc, hx⟩
/-- A string's bytes. -/
def bytesI (s : ByteArray) : List Int := s.data.toList.map fun b => (b.toNat : Int)
theorem bytesI_len (s : ByteArray) : (bytesI s).length = s.size := by unfold bytesI; simp
theorem bytesI_bd (s : ByteArray) : ∀ x ∈ bytesI s, 0 ≤ x ∧ x < 256 := fun x hx => by
  obtain ⟨b, _, rfl⟩ := List.mem_map.1 hx
  have := b.toNat_lt
  omega
theorem bytesI_new (w : World) (s : ByteArray) : B8 (Lib.bytesWorld w 5 s) (some ⟨w.heap.size, 0, none⟩) s.size (bytesI s) := by
  refine ⟨bytesI_len s, .inr ⟨w.heap.size, 0, rfl, fun i hi => ?_⟩, bytesI_bd s⟩
  rw [List.length_map, bytesI_len] at hi
  rw [Nat.zero_add, Lib.bytesWorld_cell w _ s i hi, List.getElem_map]
  unfold bytesI
  rw [List.getElem_map]
  simp [List.getD, hi]
theorem bytesI_below (w : World) (s : ByteArray) : Below w.heap.size w (Lib.bytesWorld w 5 s) := by
  refine ⟨rfl, rfl, rfl, by rw [Lib.bytesWorld_size]; omega, fun k hk => Lib.bytesWorld_at_old w _ s k hk⟩
set_option maxRecDepth 100000 in
/-- One chunk alone. -/
theorem chunk_in (l Bs Bn g n cap : Nat) (hn0 : 0 < n) (hn7 : n ≤ 7) (hcap : n ≤ cap) (W : World) (J : World → Prop)
    (hs : W.cell? ⟨Bs, 0, none⟩ = some (.slice (some ⟨g, 0, none⟩) n cap)) (hk : W.cell? ⟨Bn, 0, none⟩ = some (.int .i64 7))
    (hY : ∀ d, YieldAt Fence.wide 3 Try.prog l #[.slice (some ⟨g, 0, none⟩) n n] (W.drewN d) fun e W' => e = .returned (.bool true) ∧ J W')
    (hJ : ∀ W', J W' → W'.cell? ⟨Bs, 0, none⟩ = some (.slice (some ⟨g, 0, none⟩) n cap) ∧ W'.cell? ⟨Bn, 0, none⟩ = some (.int .i64 7)) :
    CallsIn Fence.wide 4 Try.prog 87 #[.func (.yield l) #[] #[], .pointer (some ⟨Bs, 0, none⟩), .pointer (some ⟨Bn, 0, none⟩)] W fun e W' => (∃ v, e = .returned v) ∧ J W' := by
  refine callsIn_of_wp Try.func87 rfl trivial ?_ rfl
  simp only [Try.ntmps87, List.size_toArray, List.length_cons, List.length_nil, Nat.reduceAdd, Nat.reduceSub, Array.replicate_succ, Array.replicate_zero, List.push_toArray, List.append_toArray, List.nil_append, List.cons_append]
  gi_wp2
  gi_loopw [4] (fun p wr => (p = .int .i64 0 ∧ wr = W) ∨ (p = .int .i64 7 ∧ J wr)) (fun p _ => 7 - (intOf p).toNat)
  case atStart => exact .inl ⟨rfl, rfl⟩
  case round =>
    rcases hrel with ⟨rfl, rfl⟩ | ⟨rfl, hj⟩
    · have hlt : decide ((0 : Int) < (n : Int)) = true := by rw [decide_eq_true_eq]; omega
      have hmin : min (7 : Int) (n : Int) = n := by omega
      have i0 : (0 : Int) ≤ (n : Int) := by omega
      have i1 : (n : Int) ≤ (cap : Int) := by omega
      gi_wp2
      gi_region
      obtain ⟨fn, tmps, assign, body, hy, hR⟩ := hY 1
      have hs1 : (wr.drewN 1).cell? ⟨Bs, 0, none⟩ = some (.slice (some ⟨g, 0, none⟩) n cap) := hs
      change Exit.then _ _ _ _ (wr.drewN 1)
      gi_wp2
      refine hR.mono ?_
      rintro e W3 ⟨rfl, hj3⟩
      obtain ⟨hs3, hk3⟩ := hJ _ hj3
      gi_wp2
      go_roundw
      case rel => exact .inr ⟨rfl, hj3⟩
      case measure => simp [intOf]
    · obtain ⟨hs3, hk3⟩ := hJ _ hj
      have hlt : decide ((7 : Int) < (n : Int)) = false := by rw [decide_eq_false_iff_not]; omega
      gi_wp2
      go_end0
      exact ⟨⟨_, rfl⟩, hj⟩
end Go.Proofs.Ytcnhgkgabddjmaa
