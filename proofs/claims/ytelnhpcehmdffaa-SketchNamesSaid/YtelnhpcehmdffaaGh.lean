/-
  Sums (1): words of bytes, plain; bytes in memory; the iterator over chunks, where there is one chunk alone.
  Sums (2): the iterator over words, where there is one word alone.
  Sums (3): a state takes one word.
  Sums (4): the sum of a label and some numbers, as the program makes it.
  Sums (5): the sum of a label and some numbers, as the document says.
  The element of an operation's name, of the program and of the document.
-/
import Derived.Test.YtelnhpcehmdffaaPolyN
import Derived.Lib.ConvBytes
import Derived.RegionIn
import Derived.Deep.RegionHeld3
import Derived.Test.YtelnhpcehmdffaaGz
namespace Go.Proofs.Ytelnhpcehmdffaa
open Go.RowKit Go.Shelf
attribute [local go_sem] Oper.semAt_some

/-- Bytes as a word, the first one least. -/
def wordI : List Int → Int
  | [] => 0
  | b :: bs => b + 256 * wordI bs
theorem word_snoc (bs : List Int) (x : Int) : wordI (bs ++ [x]) = wordI bs + x * 256 ^ bs.length := by
  induction bs with
  | nil => simp [wordI]
  | cons b bs ih => rw [List.cons_append, wordI, wordI, ih, List.length_cons, Int.pow_succ]; grind
theorem word_take {bs : List Int} {i : Nat} (h : i < bs.length) : wordI (bs.take (i + 1)) = wordI (bs.take i) + nth bs i * 256 ^ i := by
  rw [List.take_succ_eq_append_getElem h, word_snoc, List.length_take, Nat.min_eq_left (by omega), nth_eq h]
theorem word_drop {bs : List Int} {i : Nat} (h : i < bs.length) : wordI (bs.drop i) = nth bs i + 256 * wordI (bs.drop (i + 1)) := by
  rw [List.drop_eq_getElem_cons h, wordI, nth_eq h]
theorem word_bd : ∀ {bs : List Int}, (∀ x ∈ bs, 0 ≤ x ∧ x < 256) → 0 ≤ wordI bs ∧ wordI bs < 256 ^ bs.length
  | [], _ => by simp [wordI]
  | b :: bs, h => by
    have h1 := h b (List.mem_cons_self ..)
    have h2 := word_bd fun x hx => h x (List.mem_cons_of_mem b hx)
    rw [wordI, List.length_cons, Int.pow_succ]
    generalize (256 : Int) ^ bs.length = p at *
    omega
theorem or_comm64 (a b : Int) (ha0 : 0 ≤ a) (ha : a < 18446744073709551616) (hb0 : 0 ≤ b) (hb : b < 18446744073709551616) : bits .or .u64 a b = bits .or .u64 b a := by
  obtain ⟨x, rfl⟩ := Int.eq_ofNat_of_zero_le ha0
  obtain ⟨y, rfl⟩ := Int.eq_ofNat_of_zero_le hb0
  rw [(bits_nat .u64 64 (by decide) wraps64 x y (by omega) (by omega)).2, (bits_nat .u64 64 (by decide) wraps64 y x (by omega) (by omega)).2, Nat.or_comm]
theorem or_word {u x : Int} {i : Nat} (hi : i < 7) (hu0 : 0 ≤ u) (hu : u < 256 ^ i) (hx0 : 0 ≤ x) (hx : x < 256) : bits .or .u64 u (IntKind.u64.wrap (x * 2 ^ (8 * i))) = u + x * 256 ^ i := by
  have e : (256 : Int) ^ i = 2 ^ (8 * i) := by rw [Int.pow_mul]; rfl
  rw [e] at hu
  have h1 : x * 2 ^ (8 * i) < 18446744073709551616 ∧ 0 ≤ x * 2 ^ (8 * i) ∧ (2 : Int) ^ (8 * i) < 18446744073709551616 := by
    rcases (by omega : i = 0 ∨ i = 1 ∨ i = 2 ∨ i = 3 ∨ i = 4 ∨ i = 5 ∨ i = 6) with rfl | rfl | rfl | rfl | rfl | rfl | rfl <;> refine ⟨?_, ?_, ?_⟩ <;> omega
  obtain ⟨h2, h3, h4⟩ := h1
  have h5 : x * 2 ^ (8 * i) % 2 ^ (8 * i) = 0 := Int.mul_emod_left _ _
  rw [wraps64 _ h3 h2, e, or_comm64 _ _ hu0 (by omega) h3 h2, bits_join .u64 64 (by decide) wraps64 (8 * i) _ _ h3 h5 (by omega) hu0 hu (by omega), Int.add_comm]
/-- A slice that reads as bytes. -/
structure B8 (w : World) (p : Option Addr) (n : Nat) (bs : List Int) : Prop where
  len : bs.length = n
  rd : Rd w p (bs.map (Value.int .u8))
  bd : ∀ x ∈ bs, 0 ≤ x ∧ x < 256
theorem B8.below {w w' : World} {p : Option Addr} {n : Nat} {bs : List Int} (h : B8 w p n bs) (hb : Below w.heap.size w w') : B8 w' p n bs := ⟨h.len, h.rd.below hb, h.bd⟩
theorem B8.look {w : World} {p : Option Addr} {n : Nat} {bs : List Int} (h : B8 w p n bs) {i : Nat} (hi : i < n) :
    ∃ b off, p = some ⟨b, off, none⟩ ∧ b < w.heap.size ∧ w.cell? ⟨b, off + i, none⟩ = some (.int .u8 (nth bs i)) ∧ 0 ≤ nth bs i ∧ nth bs i < 256 := by
  have hi' : i < bs.length := by rw [h.len]; exact hi
  obtain ⟨b, off, hp, hb, hc⟩ := h.rd.here (i := i) (by simpa using hi')
  have hx := h.bd _ (nth_mem hi')
  refine ⟨b, off, hp, hb, ?_, hx⟩
  have := hc i (by simpa using hi')
  rwa [List.getElem_map, ← nth_eq hi'] at this
theorem B8.cell {w : World} {g n : Nat} {bs : List Int} (h : B8 w (some ⟨g, 0, none⟩) n bs) {i : Nat} (hi : i < n) : w.cell? ⟨g, i, none⟩ = some (.int .u8 (nth bs i)) ∧ 0 ≤ nth bs i ∧ nth bs i < 256 := by
  obtain ⟨b, off, he, _, hc, hx⟩ := h.look hi
  injection he with he
  injection he with h1 h2
  subst h1; subst h2
  rw [Nat.zero_add] at hc
  exact ⟨hc, hx⟩
/-- A string's bytes. -/
def bytesI (s : ByteArray) : List Int := s.data.toList.map fun b => (b.toNat : Int)
theorem bytesI_len (s : ByteArray) : (bytesI s).length = s.size := by unfold bytesI; simp
theorem bytesI_bd (s : ByteArray) : ∀ x ∈ bytesI s, 0 ≤ x ∧ x < 256 := fun x hx => by
  obtain ⟨b, _, rfl⟩ := List.mem_map.1 hx
  have := b.toNat_lt
  omega
theorem bytesI_new (w : World) (s : ByteArray) : B8 (Lib.bytesWorld w 5 s) (some ⟨w.heap.size, 0, none⟩) s.size (bytesI s) := by
  refine ⟨bytesI_len s, .inr ⟨w.heap.size, 0, rfl, fun i hi => ?_⟩, bytesI_bd s⟩
  rw [List.length_map, bytesI_len] at hi
  rw [Nat.zero_add, Lib.bytesWorld_cell w _ s i hi, List.getElem_map]
  unfold bytesI
  rw [List.getElem_map]
  simp [List.getD, hi]
theorem bytesI_below (w : World) (s : ByteArray) : Below w.heap.size w (Lib.bytesWorld w 5 s) := by
  refine ⟨rfl, rfl, rfl, by rw [Lib.bytesWorld_size]; omega, fun k hk => Lib.bytesWorld_at_old w _ s k hk⟩
set_option maxRecDepth 100000 in
/-- One chunk alone. -/
theorem chunk_in (l Bs Bn g n cap : Nat) (hn0 : 0 < n) (hn7 : n ≤ 7) (hcap : n ≤ cap) (W : World) (J : World → Prop)
    (hs : W.cell? ⟨Bs, 0, none⟩ = some (.slice (some ⟨g, 0, none⟩) n cap)) (hk : W.cell? ⟨Bn, 0, none⟩ = some (.int .i64 7))
    (hY : ∀ d, YieldAt Fence.wide 3 Try.prog l #[.slice (some ⟨g, 0, none⟩) n n] (W.drewN d) fun e W' => e = .returned (.bool true) ∧ J W')
    (hJ : ∀ W', J W' → W'.cell? ⟨Bs, 0, none⟩ = some (.slice (some ⟨g, 0, none⟩) n cap) ∧ W'.cell? ⟨Bn, 0, none⟩ = some (.int .i64 7)) :
    CallsIn Fence.wide 4 Try.prog 75 #[.func (.yield l) #[] #[], .pointer (some ⟨Bs, 0, none⟩), .pointer (some ⟨Bn, 0, none⟩)] W fun e W' => (∃ v, e = .returned v) ∧ J W' := by
  refine callsIn_of_wp Try.func75 rfl trivial ?_ rfl
  simp only [Try.ntmps75, List.size_toArray, List.length_cons, List.length_nil, Nat.reduceAdd, Nat.reduceSub, Array.replicate_succ, Array.replicate_zero, List.push_toArray, List.append_toArray, List.nil_append, List.cons_append]
  gi_wp2
  gi_loopw [4] (fun p wr => (p = .int .i64 0 ∧ wr = W) ∨ (p = .int .i64 7 ∧ J wr)) (fun p _ => 7 - (intOf p).toNat)
  case atStart => exact .inl ⟨rfl, rfl⟩
  case round =>
    rcases hrel with ⟨rfl, rfl⟩ | ⟨rfl, hj⟩
    · have hlt : decide ((0 : Int) < (n : Int)) = true := by rw [decide_eq_true_eq]; omega
      have hmin : min (7 : Int) (n : Int) = n := by omega
      have i0 : (0 : Int) ≤ (n : Int) := by omega
      have i1 : (n : Int) ≤ (cap : Int) := by omega
      gi_wp2
      gi_region
      obtain ⟨fn, tmps, assign, body, hy, hR⟩ := hY 1
      have hs1 : (wr.drewN 1).cell? ⟨Bs, 0, none⟩ = some (.slice (some ⟨g, 0, none⟩) n cap) := hs
      change Exit.then _ _ _ _ (wr.drewN 1)
      gi_wp2
      refine hR.mono ?_
      rintro e W3 ⟨rfl, hj3⟩
      obtain ⟨hs3, hk3⟩ := hJ _ hj3
      gi_wp2
      go_roundw
      case rel => exact .inr ⟨rfl, hj3⟩
      case measure => simp [intOf]
    · obtain ⟨hs3, hk3⟩ := hJ _ hj
      have hlt : decide ((7 : Int) < (n : Int)) = false := by rw [decide_eq_false_iff_not]; omega
      gi_wp2
      go_end0
      exact ⟨⟨_, rfl⟩, hj⟩
end Go.Proofs.Ytelnhpcehmdffaa

namespace Go.Proofs.Ytelnhpcehmdffaa
open Go.RowKit Go.Shelf
attribute [local go_sem] Oper.semAt_some

theorem ChunkF_any (p : Option Addr) (n c : Nat) (w : World) :
    Calls Try.prog 69 #[.slice p n c, .int .i64 7] w fun e w' =>
      e = .returned (.func (.func 75) #[] #[.pointer (some ⟨w.heap.size, 0, none⟩), .pointer (some ⟨w.heap.size + 1, 0, none⟩)]) ∧
      (w.alloc (.cells #[.slice p n c] 75)).alloc (.cells #[.int .i64 7] 3) = w' := by
  go_enter Try.func69, Try.ntmps69
  go_wp2
  go_ret
  exact ⟨rfl, rfl⟩
/-- What the iterator over words holds of its own. -/
structure WdS (B l1 : Nat) (v : Value) (r : LoopState → Option Code → Loop) (st : LoopState) (X : World) : Prop where
  cy : X.heap[B]? = some (.cells #[.func (.yield l1) #[] #[]] 69 (0, 0))
  cs : X.heap[B + 1]? = some (.cells #[v] 75 (0, 0))
  ck : X.heap[B + 2]? = some (.cells #[.int .i64 7] 3 (0, 0))
  df : X.heap[B + 3]? = some (.deferred (some []))
  lp : X.heap[B + 4]? = some (.loop (r st none))
theorem WdS.keep {B l1 : Nat} {v : Value} {r : LoopState → Option Code → Loop} {st : LoopState} {X Y : World} (h : WdS B l1 v r st X) (hk : ∀ k, B ≤ k → k < B + 5 → Y.heap[k]? = X.heap[k]?) : WdS B l1 v r st Y :=
  ⟨(hk _ (by omega) (by omega)).trans h.cy, (hk _ (by omega) (by omega)).trans h.cs, (hk _ (by omega) (by omega)).trans h.ck, (hk _ (by omega) (by omega)).trans h.df, (hk _ (by omega) (by omega)).trans h.lp⟩
theorem WdS.turn {B l1 : Nat} {v : Value} {r : LoopState → Option Code → Loop} {st : LoopState} {X : World} (h : WdS B l1 v r st X) (st' : LoopState) : WdS B l1 v r st' (X.putObj (B + 4) (.loop (r st' none))) :=
  ⟨(World.putObj_heap_other (by omega)).trans h.cy, (World.putObj_heap_other (by omega)).trans h.cs, (World.putObj_heap_other (by omega)).trans h.ck, (World.putObj_heap_other (by omega)).trans h.df, World.putObj_heap_same (Array.getElem?_eq_some_iff.1 h.lp).1⟩
theorem below_put {B : Nat} {w X : World} (h : Below B w X) {k : Nat} (hk : B ≤ k) (hB : B ≤ X.heap.size) (o : Obj) : Below B w (X.putObj k o) :=
  h.grown (grownBy_putObj' X _ _) hB (fun j e => by cases e; exact hk)

set_option maxRecDepth 100000 in
set_option maxHeartbeats 2000000 in
theorem words_in (l1 Bb g n cap : Nat) (bs : List Int) (hn0 : 0 < n) (hn7 : n ≤ 7) (hcap : n ≤ cap) (W : World) (J : World → Prop)
    (hb : W.cell? ⟨Bb, 0, none⟩ = some (.slice (some ⟨g, 0, none⟩) n cap)) (hB : B8 W (some ⟨g, 0, none⟩) n bs)
    (hY : ∀ Y, Below W.heap.size W Y → YieldAt Fence.wide 2 Try.prog l1 #[.int .u64 (wordI bs)] Y fun e Z => e = .returned (.bool true) ∧ J Z ∧ Y.heap.size ≤ Z.heap.size ∧ ∀ k, W.heap.size ≤ k → k < Y.heap.size → Z.heap[k]? = Y.heap[k]?)
    (hJ : ∀ X Y, J X → W.heap.size ≤ X.heap.size → Below W.heap.size X Y → J Y) :
    CallsIn Fence.wide 5 Try.prog 68 #[.func (.yield l1) #[] #[], .pointer (some ⟨Bb, 0, none⟩)] W fun e W' => (∃ v, e = .returned v) ∧ J W' := by
  have hBl : Bb < W.heap.size := cell_lt hb
  refine callsIn_of_wp_marks Try.func68 rfl trivial ?_ rfl
  simp only [Try.ntmps68, List.size_toArray, List.length_cons, List.length_nil, Nat.reduceAdd, Nat.reduceSub, Array.replicate_succ, Array.replicate_zero, List.push_toArray, List.append_toArray, List.nil_append, List.cons_append]
  have hb1 : (W.alloc (.cells #[.func (.yield l1) #[] #[]] 69)).cell? ⟨Bb, 0, none⟩ = some (.slice (some ⟨g, 0, none⟩) n cap) := ((Below.lit W _).cell hBl).trans hb
  gi_wp2_with (refine ⟨trivial, ?_⟩; gi_at_call 69; refine (callsIn_wide.2 (ChunkF_any (some ⟨g, 0, none⟩) n cap _)).mono ?_; rintro e w' ⟨rfl, rfl⟩)
  obtain ⟨W0, hW0⟩ : ∃ W0, ((W.alloc (.cells #[.func (.yield l1) #[] #[]] 69)).alloc (.cells #[.slice (some ⟨g, 0, none⟩) n cap] 75)).alloc (.cells #[.int .i64 7] 3) = W0 := ⟨_, rfl⟩
  have hs : W0.heap.size = W.heap.size + 3 := by rw [← hW0]; simp
  have hbl : Below W.heap.size W W0 := by rw [← hW0]; exact (((Below.refl _ _).alloc (Nat.le_refl _) _).alloc (by simp) _).alloc (by simp; omega) _
  have c0 : W0.heap[W.heap.size]? = some (.cells #[.func (.yield l1) #[] #[]] 69 (0, 0)) := by
    rw [← hW0, Below.heap_alloc _ _ _ (by simp; omega), Below.heap_alloc _ _ _ (by simp), World.alloc_heap_new]
  have c1 : W0.heap[W.heap.size + 1]? = some (.cells #[.slice (some ⟨g, 0, none⟩) n cap] 75 (0, 0)) := by
    rw [← hW0, Below.heap_alloc _ _ _ (by simp)]; have := World.alloc_heap_new (W.alloc (.cells #[.func (.yield l1) #[] #[]] 69)) (.cells #[.slice (some ⟨g, 0, none⟩) n cap] 75); rwa [World.size_alloc] at this
  have c2 : W0.heap[W.heap.size + 2]? = some (.cells #[.int .i64 7] 3 (0, 0)) := by
    rw [← hW0]; have := World.alloc_heap_new ((W.alloc (.cells #[.func (.yield l1) #[] #[]] 69)).alloc (.cells #[.slice (some ⟨g, 0, none⟩) n cap] 75)) (.cells #[.int .i64 7] 3); rwa [World.size_alloc, World.size_alloc] at this
  rw [hW0]
  clear hb1
  refine range_enter rfl (by omega) 75 #[.pointer (some ⟨W.heap.size + 1, 0, none⟩), .pointer (some ⟨W.heap.size + 1 + 1, 0, none⟩)] rfl trivial (enters_of Try.func75 (by kernel_rfl) rfl) ?_
  intro fn hfn
  rw [hs]
  generalize hr : lrec fn _ _ _ _ _ = r
  obtain ⟨W1, hW1⟩ : ∃ W1, ((W0.alloc (.deferred (some []))).alloc (.loop (r .ready none))) = W1 := ⟨_, rfl⟩
  have hD : WdS W.heap.size l1 (.slice (some ⟨g, 0, none⟩) n cap) r .ready W1 := by
    rw [← hW1]
    refine ⟨?_, ?_, ?_, ?_, ?_⟩
    · rw [Below.heap_alloc _ _ _ (by simp; omega), Below.heap_alloc _ _ _ (by omega)]; exact c0
    · rw [Below.heap_alloc _ _ _ (by simp; omega), Below.heap_alloc _ _ _ (by omega)]; exact c1
    · rw [Below.heap_alloc _ _ _ (by simp; omega), Below.heap_alloc _ _ _ (by omega)]; exact c2
    · rw [Below.heap_alloc _ _ _ (by simp; omega)]; have := World.alloc_heap_new W0 (.deferred (some [])); rwa [hs] at this
    · have := World.alloc_heap_new (W0.alloc (.deferred (some []))) (.loop (r .ready none)); rwa [World.size_alloc, hs] at this
  have hbl1 : Below W.heap.size W W1 := by rw [← hW1]; exact (hbl.alloc (by omega) _).alloc (by simp; omega) _
  have hz1 : W.heap.size + 5 ≤ W1.heap.size := (Array.getElem?_eq_some_iff.1 hD.lp).1
  rw [hW1]
  clear hW1 hW0 c0 c1 c2 hbl hs hb
  refine (chunk_in (W.heap.size + 4) (W.heap.size + 1) (W.heap.size + 1 + 1) g n cap hn0 hn7 hcap W1 (fun X => WdS W.heap.size l1 (.slice (some ⟨g, 0, none⟩) n cap) r .ready X ∧ J X ∧ W.heap.size ≤ X.heap.size) (cell_of_one hD.cs) (cell_of_one hD.ck) (fun d => ?round) (fun X hX => ⟨cell_of_one hX.1.cs, cell_of_one hX.1.ck⟩)).mono ?fin
  case round =>
    obtain ⟨X, hX⟩ : ∃ X, Hid (W1.drewN d = X) := ⟨_, Lib.hid rfl⟩
    have hDX : WdS W.heap.size l1 (.slice (some ⟨g, 0, none⟩) n cap) r .ready X := by rw [← hX.out]; exact ⟨hD.cy, hD.cs, hD.ck, hD.df, hD.lp⟩
    have hbX : Below W.heap.size W X := by rw [← hX.out]; exact below_drewN hbl1 d
    have hzX : W.heap.size + 5 ≤ X.heap.size := by rw [← hX.out]; exact hz1
    rw [hX.out]
    have hlp := hDX.lp
    rw [← hr] at hlp
    refine yield_round trivial hlp rfl { tmps := #[.func (.yield l1) #[] #[], .pointer (some ⟨Bb, 0, none⟩), .pointer (some ⟨W.heap.size, 0, none⟩), .slice (some ⟨g, 0, none⟩) n n, undef, undef, undef, .slice (some ⟨g, 0, none⟩) n cap,
                    .func (.func 75) #[] #[.pointer (some ⟨W.heap.size + 1, 0, none⟩), .pointer (some ⟨W.heap.size + 1 + 1, 0, none⟩)],
                    .slice (some ⟨g, 0, none⟩) n n, undef, undef, undef, undef, undef, undef, undef, undef, undef, undef, undef, undef, undef, undef, undef, undef, undef, undef, undef], defers := [] } ?assign ?body
    case assign =>
      intro K hK
      gi_wp2
      exact hK
    case body =>
      rw [hr]
      have hDb := hDX.turn .busy
      have hbb : Below W.heap.size W (X.putObj (W.heap.size + 4) (.loop (r .busy none))) := below_put hbX (by omega) (by omega) _
      have hzb : W.heap.size + 5 ≤ (X.putObj (W.heap.size + 4) (.loop (r .busy none))).heap.size := by simp [World.putObj]; omega
      generalize X.putObj (W.heap.size + 4) (.loop (r .busy none)) = Y at *
      have hBY := hB.below hbb
      gi_wp2
      gi_loopw [4, 12] (fun wv iv wr => ∃ i : Nat, i ≤ n ∧ wv = .int .u64 (wordI (bs.take i)) ∧ iv = .int .i64 i ∧ wr = Y) (fun _ iv _ => n - (intOf iv).toNat)
      case atStart => exact ⟨0, Nat.zero_le _, by rw [List.take_zero]; rfl, rfl, rfl⟩
      case round =>
        obtain ⟨i, hi, rfl, rfl, rfl⟩ := hrel
        by_cases hlt : i < n
        · obtain ⟨hc, hx0, hx1⟩ := hBY.cell hlt
          have it0 : (0 : Int) ≤ (i : Int) := by omega
          have it1 : (i : Int) < (n : Int) := by omega
          have hst := word_take (bs := bs) (i := i) (by rw [hBY.len]; exact hlt)
          have hub := word_bd (bs := bs.take i) fun x hx => hBY.bd x (List.mem_of_mem_take hx)
          rw [List.length_take, Nat.min_eq_left (by rw [hBY.len]; omega)] at hub
          generalize wordI (bs.take i) = u at *
          generalize nth bs i = x at *
          replace hst := Lib.hid (hst.trans (or_word (by omega) hub.1 hub.2 hx0 hx1).symm)
          clear hub
          gi_wp2
          go_roundw
          case rel => exact ⟨i + 1, by omega, by rw [hst.out], by go_num, trivial⟩
          case measure => simp [intOf]; omega
        · obtain rfl : i = n := by omega
          have hfin : Hid (bs.take i = bs) := Lib.hid (List.take_of_length_le (by rw [hBY.len]; omega))
          rw [hfin.out]
          have hcy := cell_of_one hDb.cy
          obtain ⟨fn2, tmps2, assign2, body2, hy, hR⟩ := hY wr hbb
          gi_wp2
          refine RoundIn.mono (F := Fence.wide) hR ?_
          rintro e Z ⟨rfl, hJZ, hsz, hkZ⟩
          have hDZ := hDb.keep (Y := Z) fun k h1 h2 => hkZ k h1 (by omega)
          gi_wp2
          refine ⟨hDZ.lp, rfl, hDZ.turn .ready, hJ _ _ hJZ (by omega) (below_put (Below.refl _ _) (by omega) (by omega) _), by simp [World.putObj]; omega⟩
  case fin =>
    rintro e X ⟨hv, hDX, hJX, hzX⟩
    refine ⟨hv, .inl ⟨hDX.lp, ?_⟩⟩
    have hDe := hDX.turn .exhausted
    have hJe := hJ _ _ hJX hzX (below_put (Below.refl _ _) (k := W.heap.size + 4) (by omega) hzX (.loop (r .exhausted none)))
    have hdf := hDe.df
    have hJ2 := hJ _ _ hJe (by simp [World.putObj]; omega) (below_put (Below.refl _ _) (k := W.heap.size + 3) (by omega) (by simp [World.putObj]; omega) (.deferred none))
    clear hDX hJX hr hD hY hJ hv
    generalize X.putObj (W.heap.size + 4) (.loop (r .exhausted none)) = X2 at *
    gi_wp2
    refine ⟨by simp, .inl ⟨_, _, rfl, run_takeDeferred hdf, ?_⟩⟩
    exact ⟨_, results_none rfl _ _ _, ⟨_, rfl⟩, hJ2⟩
end Go.Proofs.Ytelnhpcehmdffaa

namespace Go.Proofs.Ytelnhpcehmdffaa
open Go.RowKit
attribute [local go_sem] T_V

/-- A state that takes a word. -/
def stepF (s : F) (k : Nat) (x : Int) : F := fpow (T 37 * s + T (x + (k + 1))) 17
/-- A state in memory. -/
def StB (w : World) (b : Nat) (s : F) (k : Nat) : Prop := w.heap[b]? = some (.cells #[.int .u64 (V s), .int .u64 k] 71 (0, 0))
theorem StB.c0 {w : World} {b : Nat} {s : F} {k : Nat} (h : StB w b s k) : w.cell? ⟨b, 0, none⟩ = some (.int .u64 (V s)) := by unfold StB at h; simp [World.cell?, h]
theorem StB.c1 {w : World} {b : Nat} {s : F} {k : Nat} (h : StB w b s k) : w.cell? ⟨b, 1, none⟩ = some (.int .u64 k) := by unfold StB at h; simp [World.cell?, h]
theorem StB.free {w : World} {b : Nat} {s : F} {k : Nat} (h : StB w b s k) (i : Nat) : w.frozen? ⟨b, i, none⟩ = false := by unfold StB at h; simp [World.frozen?, h]
theorem StB.put0 {w : World} {b : Nat} {s : F} {k : Nat} (h : StB w b s k) (s' : F) : StB (w.setCell ⟨b, 0, none⟩ (.int .u64 (V s'))) b s' k := by
  unfold StB at h ⊢
  show (w.heap.modify b _)[b]? = _
  rw [Array.getElem?_modify, if_pos rfl, h]; rfl
theorem StB.put1 {w : World} {b : Nat} {s : F} {k : Nat} (h : StB w b s k) : StB (w.setCell ⟨b, 1, none⟩ (.int .u64 ((k : Int) + 1))) b s (k + 1) := by
  unfold StB at h ⊢
  show (w.heap.modify b _)[b]? = _
  rw [Array.getElem?_modify, if_pos rfl, h]; rfl
theorem StB.keep {w w' : World} {b : Nat} {s : F} {k : Nat} (h : StB w b s k) (e : w'.heap[b]? = w.heap[b]?) : StB w' b s k := e.trans h
theorem StB.lt {w : World} {b : Nat} {s : F} {k : Nat} (h : StB w b s k) : b < w.heap.size := (Array.getElem?_eq_some_iff.1 h).1
theorem grown_cell (W : World) (b i : Nat) (v : Value) : W.grownBy (W.setCell ⟨b, i, none⟩ v) (some b) :=
  ⟨rfl, rfl, rfl, by simp [World.setCell], fun k _ hk => Below.heap_setCell _ _ _ k (fun e => hk (by rw [e]))⟩
theorem grown_trans {w v u : World} {b : Nat} (h : w.grownBy v (some b)) (k : v.grownBy u (some b)) : w.grownBy u (some b) :=
  ⟨k.os.trans h.os, k.tape.trans h.tape, k.output.trans h.output, Nat.le_trans h.size k.size, fun i hi hne => (k.block i (by have := h.size; omega) hne).trans (h.block i hi hne)⟩
theorem grown_below {w v u : World} {b : Nat} (h : w.grownBy v (some b)) (hb : Below v.heap.size v u) : w.grownBy u (some b) :=
  ⟨hb.os.trans h.os, hb.tape.trans h.tape, hb.output.trans h.output, Nat.le_trans h.size hb.size, fun i hi hne => (hb.block i (by have := h.size; omega)).trans (h.block i hi hne)⟩
theorem keep3f {wl W : World} {b o o' : Nat} {v v' : Value} (h : Below wl.heap.size wl W) (h1 : wl.cell? ⟨b, o, none⟩ = some v) (h2 : wl.cell? ⟨b, o', none⟩ = some v') (h3 : wl.frozen? ⟨b, o, none⟩ = false) : (W.cell? ⟨b, o, none⟩ = some v ∧ W.cell? ⟨b, o', none⟩ = some v' ∧ W.frozen? ⟨b, o, none⟩ = false) ∧ Below wl.heap.size wl W :=
  ⟨⟨(h.cell (cell_lt h1)).trans h1, (h.cell (cell_lt h2)).trans h2, (h.frozen (cell_lt h1)).trans h3⟩, h⟩
set_option maxRecDepth 100000 in
set_option maxHeartbeats 2000000 in
theorem take_any (b g k : Nat) (s : F) (x : Int) (w : World) (hS : StB w b s k) (hc : w.cell? ⟨g, 0, none⟩ = some (.int .u64 x)) (hx0 : 0 ≤ x) (hx1 : x + (k + 1) < 18446744073709551616) :
    Calls Try.prog 55 #[.pointer (some ⟨b, 0, none⟩), .slice (some ⟨g, 0, none⟩) 1 1] w fun e w' => (∃ v, e = .returned v) ∧ StB w' b (stepF s k x) (k + 1) ∧ w.grownBy w' (some b) := by
  go_enter Try.func55, Try.ntmps55
  go_wp2_with fail
  go_loopw [8] (fun iv wr => (iv = .int .i64 0 ∧ wr = w) ∨ (iv = .int .i64 1 ∧ StB wr b (stepF s k x) (k + 1) ∧ w.grownBy wr (some b))) (fun iv _ => 1 - (intOf iv).toNat)
  case atStart => exact .inl ⟨rfl, rfl⟩
  case round =>
    rcases hrel with ⟨rfl, rfl⟩ | ⟨rfl, h1, h2⟩
    · have hc0 := hS.c0
      have hc1 := hS.c1
      have hf1 := hS.free 1
      have hS2 := hS.put1
      have d0 := hS2.c0
      have d1 := hS2.c1
      have f0 := hS2.free 0
      rw [show ((k + 1 : Nat) : Int) = (k : Int) + 1 from rfl] at d1
      have hk1 : (k : Int) + 1 < 18446744073709551616 := by omega
      have hwr : IntKind.u64.wrap (x + ((k : Int) + 1)) = x + ((k : Int) + 1) := IntWalk.u64_in _ (by omega)
      have hg2 : wr.grownBy (wr.setCell ⟨b, 1, none⟩ (.int .u64 ((k : Int) + 1))) (some b) := grown_cell wr b 1 _
      go_wp2_with fail
      obtain ⟨w1, e1⟩ : ∃ w1, Hid (wr.setCell ⟨b, 1, none⟩ (.int .u64 ((k : Int) + 1)) = w1) := ⟨_, Lib.hid rfl⟩
      rw [e1.out] at hS2 d0 d1 f0 hg2 ⊢
      clear e1 hc0 hc1 hf1 hc
      have hbd : Below w1.heap.size w1 w1.drew := (Below.refl _ _).drew
      go_region_with (first
        | (go_at_call 22; (with_reducible refine (mul_any _ _ _ (by omega) (by omega) (V_lo _) (V_64 _)).mono ?_); rintro e w9 ⟨rfl, rfl⟩)
        | (go_at_call 40; (try rw [hwr]); (with_reducible refine (num_any _ _ (by omega) (by omega)).mono ?_); rintro e w9 ⟨rfl, rfl⟩)
        | (go_at_call 44; (with_reducible refine (add_any _ _ _ (V_lo _) (V_64 _) (V_lo _) (V_64 _)).mono ?_); rintro e w9 ⟨rfl, rfl⟩)
        | (go_at_call 59; (with_reducible refine (pow_b hbd _ _ (V_lo _) (V_64 _) (by omega) (by omega)).mono ?_); rintro e w9 ⟨rfl, hb9⟩; have hS9 := hS2.keep (hb9.block b hS2.lt); have e0 := hS9.c0; have e2 := hS9.free 0))
      all_goals
        have hS10 : StB (w9.setCell ⟨b, 0, none⟩ (.int .u64 (V (fpow (T 37 * s + T (x + ((k : Int) + 1))) 17)))) b (stepF s k x) (k + 1) := hS9.put0 _
        have hg := grown_trans (grown_below hg2 hb9) (grown_cell w9 b 0 (.int .u64 (V (fpow (T 37 * s + T (x + ((k : Int) + 1))) 17))))
        clear hb9 hS9 e0 e2
        generalize w9.setCell ⟨b, 0, none⟩ (.int .u64 (V (fpow (T 37 * s + T (x + ((k : Int) + 1))) 17))) = w10 at *
        go_wp2
        go_roundw
        case rel => exact .inr ⟨rfl, hS10, hg⟩
        case measure => simp [intOf]
    · go_wp2_with fail
      go_end0
      exact ⟨⟨_, rfl⟩, h1, h2⟩
end Go.Proofs.Ytelnhpcehmdffaa

namespace Go.Proofs.Ytelnhpcehmdffaa
open Go.RowKit Go.Shelf
attribute [local go_sem] Oper.semAt_some

/-- A state that takes words. -/
def hrun : F → Nat → List Int → F
  | s, _, [] => s
  | s, k, x :: xs => hrun (stepF s k x) (k + 1) xs
theorem hrun_snoc (s : F) (k : Nat) (xs : List Int) (x : Int) : hrun s k (xs ++ [x]) = stepF (hrun s k xs) (k + xs.length) x := by
  induction xs generalizing s k with
  | nil => rfl
  | cons y ys ih => rw [List.cons_append, hrun, hrun, ih, List.length_cons, show k + 1 + ys.length = k + (ys.length + 1) by omega]
/-- What is taken in, of a label's bytes and some numbers. -/
def hwords (bs xs : List Int) : List Int := [wordI bs, (xs.length : Int)] ++ xs.map (fun x => V (T x)) ++ [0]
/-- The sum. -/
def hashF (bs xs : List Int) : F := hrun (T bs.length) 0 (hwords bs xs)
theorem wordsF_any (p : Option Addr) (n c : Nat) (w : World) :
    Calls Try.prog 54 #[.slice p n c] w fun e w' =>
      e = .returned (.func (.func 68) #[] #[.pointer (some ⟨w.heap.size, 0, none⟩)]) ∧ w.alloc (.cells #[.slice p n c] 75) = w' := by
  go_enter Try.func54, Try.ntmps54
  go_wp2
  go_ret
  exact ⟨rfl, rfl⟩
/-- Where Of stands. -/
structure OfJ (w : World) (r : LoopState → Option Code → Loop) (st : LoopState) (s : F) (k : Nat) (X : World) : Prop where
  sb : StB X w.heap.size s k
  df : X.heap[w.heap.size + 3]? = some (.deferred (some []))
  lp : X.heap[w.heap.size + 4]? = some (.loop (r st none))
  bl : Below w.heap.size w X
theorem OfJ.keep {w : World} {r : LoopState → Option Code → Loop} {st : LoopState} {s : F} {k : Nat} {X Y : World} (h : OfJ w r st s k X) (hb : Below (w.heap.size + 5) X Y) : OfJ w r st s k Y :=
  ⟨h.sb.keep (hb.block _ (by omega)), (hb.block _ (by omega)).trans h.df, (hb.block _ (by omega)).trans h.lp, h.bl.trans (hb.mono (by omega))⟩
theorem OfJ.turn {w : World} {r : LoopState → Option Code → Loop} {st : LoopState} {s : F} {k : Nat} {X : World} (h : OfJ w r st s k X) (st' : LoopState) : OfJ w r st' s k (X.putObj (w.heap.size + 4) (.loop (r st' none))) :=
  ⟨h.sb.keep (World.putObj_heap_other (by omega)), (World.putObj_heap_other (by omega)).trans h.df, World.putObj_heap_same (Array.getElem?_eq_some_iff.1 h.lp).1, below_put h.bl (by omega) h.bl.size _⟩
theorem OfJ.took {w : World} {r : LoopState → Option Code → Loop} {st : LoopState} {s s' : F} {k k' : Nat} {X Y : World} (h : OfJ w r st s k X) (hS : StB Y w.heap.size s' k') (hg : X.grownBy Y (some w.heap.size)) : OfJ w r st s' k' Y :=
  have hlt := (Array.getElem?_eq_some_iff.1 h.lp).1
  have hs := h.bl.size
  ⟨hS, (hg.block _ (by omega) (fun e => by injection e with e; omega)).trans h.df, (hg.block _ hlt (fun e => by injection e with e; omega)).trans h.lp, h.bl.grown hg hs (fun k e => by cases e; omega)⟩

set_option maxRecDepth 100000 in
set_option maxHeartbeats 4000000 in
theorem hOf_in (lab : ByteArray) (p : Option Addr) (n c : Nat) (xs : List Int) (w : World) (hl0 : 0 < lab.size) (hl7 : lab.size ≤ 7) (hX : U w p n xs) (hn : n ≤ 1000000) :
    CallsIn Fence.wide 6 Try.prog 41 #[.string lab, .slice p n c] w fun e w' => e = .returned (.int .u64 (V (hashF (bytesI lab) xs))) ∧ Below w.heap.size w w' := by
  have hconv : ∀ W, (convert 9 75 (.string lab)).run Try.prog W = .ok (.slice (some ⟨W.heap.size, 0, none⟩) lab.size (grownCap W lab.size 0 5)) (Lib.bytesWorld W 5 lab) := fun W =>
    Lib.run_convert_string_bytes W 9 75 5 lab Try.underlying9 Try.underlying75 Try.underlying5
  refine callsIn_of_wp_marks Try.func41 rfl trivial ?_ rfl
  simp only [Try.ntmps41, List.size_toArray, List.length_cons, List.length_nil, Nat.reduceAdd, Nat.reduceSub, Array.replicate_succ, Array.replicate_zero, List.push_toArray, List.append_toArray, List.nil_append, List.cons_append]
  gi_wp2_with (refine ⟨trivial, ?_⟩; gi_at_call 54; refine (callsIn_wide.2 (wordsF_any _ _ _ _)).mono ?_; rintro e w' ⟨rfl, rfl⟩)
  have hSa : StB (w.alloc (.cells #[.int .u64 lab.size, .int .u64 0] 71)) w.heap.size (T lab.size) 0 := by
    unfold StB
    rw [World.alloc_heap_new, T_small _ (by omega) (by omega)]; rfl
  have hba := Below.lit w (.cells #[.int .u64 lab.size, .int .u64 0] 71)
  have hza : (w.alloc (.cells #[.int .u64 lab.size, .int .u64 0] 71)).heap.size = w.heap.size + 1 := World.size_alloc _ _
  generalize w.alloc (.cells #[.int .u64 lab.size, .int .u64 0] 71) = Wa at *
  have hbb := bytesI_below Wa lab
  have hB := bytesI_new Wa lab
  have hzb := Lib.bytesWorld_size Wa 5 lab
  have hcap := grownCap_ge Wa lab.size 0 5
  generalize grownCap Wa lab.size 0 5 = cap at *
  clear hconv
  generalize Lib.bytesWorld Wa 5 lab = Wb at *
  rw [hza] at hB hzb hbb
  rw [hzb]
  have hSb := hSa.keep (hbb.block w.heap.size (by omega))
  have hbw := hba.trans (hbb.mono (by omega))
  obtain ⟨W0, hW0⟩ : ∃ W0, Wb.alloc (.cells #[.slice (some ⟨w.heap.size + 1, 0, none⟩) lab.size cap] 75) = W0 := ⟨_, rfl⟩
  have hs : W0.heap.size = w.heap.size + 3 := by rw [← hW0, World.size_alloc, hzb]
  have hb0 := Below.lit Wb (.cells #[.slice (some ⟨w.heap.size + 1, 0, none⟩) lab.size cap] 75)
  have c2 : W0.heap[w.heap.size + 2]? = some (.cells #[.slice (some ⟨w.heap.size + 1, 0, none⟩) lab.size cap] 75 (0, 0)) := by
    rw [← hW0]; have := World.alloc_heap_new Wb (.cells #[.slice (some ⟨w.heap.size + 1, 0, none⟩) lab.size cap] 75); rwa [hzb] at this
  rw [hW0] at hb0 ⊢
  have hS0 := hSb.keep (hb0.block w.heap.size (by omega))
  have hB0 := hB.below hb0
  have hbw0 := hbw.trans (hb0.mono (by omega))
  clear hW0 hSa hSb hB hbw hba hbb hb0 hza hzb
  refine range_enter rfl (by omega) 68 #[.pointer (some ⟨w.heap.size + 1 + 1, 0, none⟩)] rfl trivial (enters_of Try.func68 (by kernel_rfl) rfl) ?_
  intro fn hfn
  rw [hs]
  generalize hr : lrec fn _ _ _ _ _ = r
  obtain ⟨W1, hW1⟩ : ∃ W1, ((W0.alloc (.deferred (some []))).alloc (.loop (r .ready none))) = W1 := ⟨_, rfl⟩
  have hz1 : W1.heap.size = w.heap.size + 5 := by rw [← hW1]; simp; omega
  have hb01 : Below W0.heap.size W0 W1 := by rw [← hW1]; exact (Below.lit W0 _).alloc (by simp) _
  have hO : OfJ w r .ready (T lab.size) 0 W1 := by
    refine ⟨hS0.keep (hb01.block _ (by omega)), ?_, ?_, hbw0.trans (hb01.mono (by omega))⟩
    · rw [← hW1, Below.heap_alloc _ _ _ (by simp; omega)]; have := World.alloc_heap_new W0 (.deferred (some [])); rwa [hs] at this
    · rw [← hW1]; have := World.alloc_heap_new (W0.alloc (.deferred (some []))) (.loop (r .ready none)); rwa [World.size_alloc, hs] at this
  have hc1 : W1.cell? ⟨w.heap.size + 1 + 1, 0, none⟩ = some (.slice (some ⟨w.heap.size + 1, 0, none⟩) lab.size cap) := cell_of_one (t := 75) ((hb01.block (w.heap.size + 2) (by omega)).trans c2)
  have hB1 := hB0.below hb01
  rw [hW1]
  clear hW1 c2 hB0 hS0 hb01 hbw0 hs
  refine (words_in (w.heap.size + 4) (w.heap.size + 1 + 1) (w.heap.size + 1) lab.size cap (bytesI lab) hl0 hl7 hcap W1 (fun X => OfJ w r .ready (stepF (T lab.size) 0 (wordI (bytesI lab))) 1 X) hc1 hB1 (fun Y hYb => ?round) (fun X Y hX hz hb => hX.keep (by rw [hz1] at hb; exact hb))).mono ?fin
  case round =>
    have hOY := hO.keep (Y := Y) (by rw [hz1] at hYb; exact hYb)
    have hzY := hYb.size
    have hlp := hOY.lp
    rw [← hr] at hlp
    refine yield_round trivial hlp rfl { tmps := #[.string lab, .slice p n c, undef, undef, .int .u64 0, .pointer (some ⟨w.heap.size, 0, none⟩), .int .u64 (wordI (bytesI lab)), undef, undef, .string lab, .int .i64 lab.size, .int .u64 lab.size, .agg #[.int .u64 lab.size, .int .u64 0], .string lab, .slice (some ⟨w.heap.size + 1, 0, none⟩) lab.size cap,
                    .func (.func 68) #[] #[.pointer (some ⟨w.heap.size + 1 + 1, 0, none⟩)], .int .u64 (wordI (bytesI lab)),
                    undef, undef, undef, undef, undef, undef, undef, undef, undef, undef, undef, undef, undef, undef, undef, undef, undef, undef, undef, undef, undef, undef, undef], defers := [] } ?assign ?body
    case assign =>
      intro K hK
      gi_wp2
      exact hK
    case body =>
      rw [hr]
      have hOb := hOY.turn .busy
      have hkb : ∀ k, w.heap.size + 5 ≤ k → k < Y.heap.size → (Y.putObj (w.heap.size + 4) (.loop (r .busy none))).heap[k]? = Y.heap[k]? := fun k h1 h2 => World.putObj_heap_other (by omega)
      have hzb : (Y.putObj (w.heap.size + 4) (.loop (r .busy none))).heap.size = Y.heap.size := by simp [World.putObj]
      generalize Y.putObj (w.heap.size + 4) (.loop (r .busy none)) = Y2 at *
      have hz5 : w.heap.size + 5 ≤ Y2.heap.size := by omega
      replace hzb := Lib.hid hzb
      have hwd := word_bd (bytesI_bd lab)
      rw [bytesI_len] at hwd
      have hw7 : (256 : Int) ^ lab.size ≤ 72057594037927936 := by
        rcases (by omega : lab.size = 1 ∨ lab.size = 2 ∨ lab.size = 3 ∨ lab.size = 4 ∨ lab.size = 5 ∨ lab.size = 6 ∨ lab.size = 7) with h | h | h | h | h | h | h <;> rw [h] <;> decide
      have hx1 : wordI (bytesI lab) + ((0 : Nat) + 1) < 18446744073709551616 := by omega
      have hbl := Below.lit Y2 (.cells #[.int .u64 (wordI (bytesI lab))] 40)
      have hOl := hOb.keep (hbl.mono hz5)
      have hcl : (Y2.alloc (.cells #[.int .u64 (wordI (bytesI lab))] 40)).cell? ⟨Y2.heap.size, 0, none⟩ = some (.int .u64 (wordI (bytesI lab))) := (Arr.new Y2 40 [.int .u64 (wordI (bytesI lab))]).cell (i := 0) (by simp)
      have hzl := hbl.size
      gi_wp2_with (refine ⟨trivial, ?_⟩; gi_at_call 55; refine (CallsIn.inRound _ (callsIn_wide.2 (take_any w.heap.size Y2.heap.size 0 (T lab.size) (wordI (bytesI lab)) _ hOl.sb hcl hwd.1 hx1))).mono ?_; rintro e Z ⟨⟨v, rfl⟩, hSZ, hgZ⟩)
      have hOZ := hOl.took hSZ hgZ
      have hzZ := hgZ.size
      have hzb' := hzb.out
      have hzl' : Y2.heap.size ≤ Z.heap.size := by omega
      have hzf : (Z.putObj (w.heap.size + 4) (.loop (r .ready none))).heap.size = Z.heap.size := by simp [World.putObj]
      refine ⟨hOZ.lp, rfl, hOZ.turn .ready, by omega, fun k h1 h2 => ?_⟩
      rw [hz1] at h1
      exact (World.putObj_heap_other (by omega)).trans ((hgZ.block k (by omega) (fun e => by injection e with e; omega)).trans ((hbl.block k (by omega)).trans (hkb k h1 h2)))
  case fin =>
    rintro e X ⟨hv, hOX⟩
    refine ⟨hv, .inl ⟨hOX.lp, ?_⟩⟩
    have hOe := hOX.turn .exhausted
    clear hOX hr hO hv
    generalize X.putObj (w.heap.size + 4) (.loop (r .exhausted none)) = X2 at *
    have hX2 := hX.below hOe.bl
    have hz2 : w.heap.size + 5 ≤ X2.heap.size := (Array.getElem?_eq_some_iff.1 hOe.lp).1
    have hba := Below.lit X2 (.cells #[.int .u64 n] 40)
    have hOa := hOe.keep (hba.mono hz2)
    have hca : (X2.alloc (.cells #[.int .u64 n] 40)).cell? ⟨X2.heap.size, 0, none⟩ = some (.int .u64 n) := (Arr.new X2 40 [.int .u64 n]).cell (i := 0) (by simp)
    have hn0 : (0 : Int) ≤ (n : Int) := by omega
    have hn1 : (n : Int) + ((1 : Nat) + 1) < 18446744073709551616 := by omega
    gi_wp2_with (refine ⟨trivial, ?_⟩; gi_at_call 55; refine (callsIn_wide.2 (take_any w.heap.size X2.heap.size 1 _ (n : Int) _ hOa.sb hca hn0 hn1)).mono ?_; rintro e Z ⟨⟨v, rfl⟩, hSZ, hgZ⟩)
    have hOZ := hOa.took hSZ hgZ
    clear hOa hSZ hgZ hca hba hOe hX2
    have hs2 : Hid (stepF (stepF (T lab.size) 0 (wordI (bytesI lab))) 1 n = hrun (T (bytesI lab).length) 0 ([wordI (bytesI lab), (xs.length : Int)] ++ (xs.map fun x => V (T x)).take 0)) := Lib.hid (by
      rw [hX.len, bytesI_len]; rfl)
    rw [hs2.out] at hOZ
    gi_loopw [27] (fun iv wr => ∃ i : Nat, i ≤ n ∧ iv = .int .i64 i ∧ OfJ w r .exhausted (hrun (T (bytesI lab).length) 0 ([wordI (bytesI lab), (xs.length : Int)] ++ (xs.map fun x => V (T x)).take i)) (i + 2) wr) (fun iv _ => n - (intOf iv).toNat)
    case atStart => exact ⟨0, Nat.zero_le _, rfl, hOZ⟩
    case round =>
      clear hOZ hs2
      obtain ⟨i, hi, rfl, hO⟩ := hrel
      have hzr : w.heap.size + 5 ≤ wr.heap.size := (Array.getElem?_eq_some_iff.1 hO.lp).1
      by_cases hlt : i < n
      · obtain ⟨bb, off, rfl, _, hcell, hx0, hx1⟩ := (hX.below hO.bl).look hlt
        have hst : Hid (hrun (T (bytesI lab).length) 0 ([wordI (bytesI lab), (xs.length : Int)] ++ (xs.map fun x => V (T x)).take (i + 1)) = stepF (hrun (T (bytesI lab).length) 0 ([wordI (bytesI lab), (xs.length : Int)] ++ (xs.map fun x => V (T x)).take i)) (i + 2) (V (T (nth xs i)))) := Lib.hid (by
          have hil : i < xs.length := by rw [hX.len]; exact hlt
          rw [List.take_succ_eq_append_getElem (by simpa using hil), ← List.append_assoc, hrun_snoc, List.getElem_map, nth_eq hil]
          congr 1
          rw [List.length_append, List.length_take, List.length_map, Nat.min_eq_left (by omega)]
          show 0 + (2 + i) = i + 2
          omega)
        generalize hrun (T (bytesI lab).length) 0 ([wordI (bytesI lab), (xs.length : Int)] ++ (xs.map fun x => V (T x)).take i) = s at *
        obtain ⟨y, hy⟩ : ∃ y : F, Hid (T (nth xs i) = y) := ⟨_, Lib.hid rfl⟩
        rw [hy.out] at hst
        have hba := Below.lit wr (.cells #[.int .u64 (V y)] 40)
        have hOa := hO.keep (hba.mono hzr)
        have hca : (wr.alloc (.cells #[.int .u64 (V y)] 40)).cell? ⟨wr.heap.size, 0, none⟩ = some (.int .u64 (V y)) := (Arr.new wr 40 [.int .u64 (V y)]).cell (i := 0) (by simp)
        have hy1 : V y + ((i + 2 : Nat) + 1) < 18446744073709551616 := by have := V_hi y; omega
        gi_wp2_with (first
          | (refine ⟨trivial, ?_⟩; gi_at_call 40; refine (callsIn_wide.2 (num_any _ _ hx0 hx1)).mono ?_; rintro e w' ⟨rfl, rfl⟩; rw [hy.out])
          | (refine ⟨trivial, ?_⟩; gi_at_call 55; refine (callsIn_wide.2 (take_any w.heap.size wr.heap.size (i + 2) s (V y) _ hOa.sb hca (V_lo y) hy1)).mono ?_; rintro e Z2 ⟨⟨v, rfl⟩, hSZ, hgZ⟩))
        have hO2 := hOa.took hSZ hgZ
        go_roundw
        case rel => exact ⟨i + 1, by omega, by go_num, by rw [hst.out]; exact hO2⟩
        case measure => simp [intOf]; omega
      · obtain rfl : i = n := by omega
        have hfin : Hid (hashF (bytesI lab) xs = stepF (hrun (T (bytesI lab).length) 0 ([wordI (bytesI lab), (xs.length : Int)] ++ (xs.map fun x => V (T x)).take i)) (i + 2) 0) := Lib.hid (by
          unfold hashF hwords
          rw [hrun_snoc, List.take_of_length_le (by rw [List.length_map, hX.len]; omega)]
          congr 1
          rw [List.length_append, List.length_map, hX.len]
          show 0 + (2 + i) = i + 2
          omega)
        generalize hrun (T (bytesI lab).length) 0 ([wordI (bytesI lab), (xs.length : Int)] ++ (xs.map fun x => V (T x)).take i) = s at *
        have hba := Below.lit wr (.cells #[.int .u64 0] 40)
        have hOa := hO.keep (hba.mono hzr)
        have hca : (wr.alloc (.cells #[.int .u64 0] 40)).cell? ⟨wr.heap.size, 0, none⟩ = some (.int .u64 0) := (Arr.new wr 40 [.int .u64 0]).cell (i := 0) (by simp)
        have hy1 : (0 : Int) + ((i + 2 : Nat) + 1) < 18446744073709551616 := by omega
        gi_wp2_with (refine ⟨trivial, ?_⟩; gi_at_call 55; refine (callsIn_wide.2 (take_any w.heap.size wr.heap.size (i + 2) s 0 _ hOa.sb hca (by omega) hy1)).mono ?_; rintro e Z2 ⟨⟨v, rfl⟩, hSZ, hgZ⟩; have hO2 := hOa.took hSZ hgZ; have hc2 := hO2.sb.c0)
        have hdf := hO2.df
        have hbl := hO2.bl
        refine ⟨by simp, .inl ⟨_, _, rfl, run_takeDeferred hdf, ?_⟩⟩
        rw [hfin.out]
        exact ⟨_, results_tmp rfl _ _ _, rfl, hbl.grown (grownBy_putObj' Z2 _ _) hbl.size (fun k e => by cases e; omega)⟩
end Go.Proofs.Ytelnhpcehmdffaa

namespace Go.Proofs.Ytelnhpcehmdffaa
open Go.RowKit
attribute [local go_sem] T_V

theorem hOf_any (lab : ByteArray) (p : Option Addr) (n c : Nat) (xs : List Int) (w : World) (hl0 : 0 < lab.size) (hl7 : lab.size ≤ 7) (hX : U w p n xs) (hn : n ≤ 1000000) :
    Calls Try.prog 41 #[.string lab, .slice p n c] w fun e w' => e = .returned (.int .u64 (V (hashF (bytesI lab) xs))) ∧ Below w.heap.size w w' :=
  callsIn_wide.1 (hOf_in lab p n c xs w hl0 hl7 hX hn)
set_option maxRecDepth 100000 in
set_option maxHeartbeats 2000000 in
theorem rWords_any (g n c : Nat) (bs : List Int) (w : World) (hB : B8 w (some ⟨g, 0, none⟩) n bs) (hn0 : 0 < n) (hn7 : n ≤ 7) :
    Calls Try.prog 56 #[.slice (some ⟨g, 0, none⟩) n c] w fun e w' => ∃ v, e = .returned v ∧ Own w' w.heap.size v 1 [wordI bs] ∧ Below w.heap.size w w' := by
  have hl := Lib.hid hB.len
  have hwb := word_bd hB.bd
  have hw7 : (256 : Int) ^ bs.length ≤ 72057594037927936 := by
    rw [hB.len]
    rcases (by omega : n = 1 ∨ n = 2 ∨ n = 3 ∨ n = 4 ∨ n = 5 ∨ n = 6 ∨ n = 7) with h | h | h | h | h | h | h <;> rw [h] <;> decide
  have hw64 : 0 ≤ wordI bs ∧ wordI bs < 18446744073709551616 := ⟨hwb.1, by omega⟩
  clear hwb hw7
  have hmin : min (n : Int) 7 = n := by omega
  go_enter Try.func56, Try.ntmps56
  go_wp2_with fail
  go_loopw [3, 4] (fun ov iv wr => (iv = .int .i64 0 ∧ ov = .slice none 0 0 ∧ wr = w) ∨ (iv = .int .i64 7 ∧ Own wr w.heap.size ov 1 [wordI bs] ∧ Below w.heap.size w wr)) (fun _ iv _ => 7 - (intOf iv).toNat)
  case atStart => exact .inl ⟨rfl, rfl, rfl⟩
  case round =>
    rcases hrel with ⟨rfl, rfl, rfl⟩ | ⟨rfl, hO, hb⟩
    · have hlt : decide ((0 : Int) < (n : Int)) = true := by rw [decide_eq_true_eq]; omega
      have hz0 : (0 : Int) ≤ (n : Int) - 1 := by omega
      go_wp2_with fail
      go_loop [5, 6] (fun wv kv => ∃ k : Nat, k ≤ n ∧ kv = .int .i64 ((k : Int) - 1) ∧ wv = .int .u64 (wordI (bs.drop k))) (fun _ kv => (intOf kv + 1).toNat)
      case atStart => exact ⟨n, Nat.le_refl _, rfl, by rw [List.drop_of_length_le (by rw [hl.out]; omega)]; rfl⟩
      case round =>
        obtain ⟨k, hk, rfl, rfl⟩ := hrel
        by_cases hk0 : k = 0
        · subst hk0
          have hd : decide ((0 : Int) ≤ ((0 : Nat) : Int) - 1) = false := by decide
          rw [List.drop_zero]
          have hbz := Below.refl wr.heap.size wr
          go_wp2_with (at_builtin; refine app_one rfl _ _ rfl (Own.nil _ wr.heap.size) rfl rfl hw64 (by omega) (Nat.le_refl _) ?_; intro v' w3 hown3 hb3)
          rw [List.nil_append] at hown3
          go_roundw
          case rel => exact .inr ⟨rfl, hown3, hb3⟩
          case measure => simp [intOf]
        · obtain ⟨j, rfl⟩ : ∃ j, k = j + 1 := ⟨k - 1, by omega⟩
          obtain ⟨hc, hx0, hx1⟩ := hB.cell (i := j) (by omega)
          have ej : ((j + 1 : Nat) : Int) - 1 = (j : Int) := by omega
          have hd : decide ((0 : Int) ≤ (j : Int)) = true := by rw [decide_eq_true_eq]; omega
          have hst := word_drop (bs := bs) (i := j) (by rw [hl.out]; omega)
          have hub := word_bd (bs := bs.drop (j + 1)) fun x hx => hB.bd x (List.mem_of_mem_drop hx)
          have hu7 : (256 : Int) ^ (bs.drop (j + 1)).length ≤ 281474976710656 := by
            rw [List.length_drop, hl.out]
            rcases (by omega : n - (j + 1) = 0 ∨ n - (j + 1) = 1 ∨ n - (j + 1) = 2 ∨ n - (j + 1) = 3 ∨ n - (j + 1) = 4 ∨ n - (j + 1) = 5 ∨ n - (j + 1) = 6) with h | h | h | h | h | h | h <;> rw [h] <;> decide
          generalize wordI (bs.drop (j + 1)) = u at *
          generalize nth bs j = x at *
          have hu : 0 ≤ u ∧ u < 281474976710656 := ⟨hub.1, by omega⟩
          replace hst := Lib.hid hst
          have it0 : (0 : Int) ≤ (j : Int) := by omega
          have it1 : (j : Int) < (n : Int) := by omega
          clear hub hu7
          rw [ej]
          go_wp2_with fail
          go_round
          case rel => exact ⟨j, by omega, rfl, by rw [hst.out]; congr 1; omega⟩
          case measure => simp [intOf]
    · have hd : decide ((7 : Int) < (n : Int)) = false := by rw [decide_eq_false_iff_not]; omega
      go_wp2_with fail
      go_ret
      exact ⟨_, rfl, hO, hb⟩
theorem keep1h {wl W : World} {b o : Nat} {v : Value} (h : Below wl.heap.size wl W) (h1 : wl.cell? ⟨b, o, none⟩ = some v) : W.cell? ⟨b, o, none⟩ = some v ∧ Below wl.heap.size wl W :=
  ⟨(World.cell?_of_block (h.block b (cell_lt h1))).trans h1, h⟩
theorem hwords_len (bs xs : List Int) : (hwords bs xs).length = xs.length + 3 := by
  unfold hwords; simp
theorem hwords_take (bs xs : List Int) {n : Nat} (h : xs.length = n) : [wordI bs, (n : Int)] ++ (xs.map fun x => V (T x)).take n ++ [0] = hwords bs xs := by
  unfold hwords; rw [List.take_of_length_le (by rw [List.length_map, h]; exact Nat.le_refl _), h]
set_option maxRecDepth 100000 in
set_option maxHeartbeats 4000000 in
theorem rhOf_any (lab : ByteArray) (p : Option Addr) (n c : Nat) (xs : List Int) (w : World) (hl0 : 0 < lab.size) (hl7 : lab.size ≤ 7) (hX : U w p n xs) (hn : n ≤ 1000000) :
    Calls Try.prog 42 #[.string lab, .slice p n c] w fun e w' => e = .returned (.int .u64 (V (hashF (bytesI lab) xs))) ∧ Below w.heap.size w w' := by
  have hconv : ∀ W, (convert 9 75 (.string lab)).run Try.prog W = .ok (.slice (some ⟨W.heap.size, 0, none⟩) lab.size (grownCap W lab.size 0 5)) (Lib.bytesWorld W 5 lab) := fun W =>
    Lib.run_convert_string_bytes W 9 75 5 lab Try.underlying9 Try.underlying75 Try.underlying5
  have hXl := Lib.hid hX.len
  have hwb := word_bd (bytesI_bd lab)
  have hw7 : (256 : Int) ^ (bytesI lab).length ≤ 72057594037927936 := by
    rw [bytesI_len]
    rcases (by omega : lab.size = 1 ∨ lab.size = 2 ∨ lab.size = 3 ∨ lab.size = 4 ∨ lab.size = 5 ∨ lab.size = 6 ∨ lab.size = 7) with h | h | h | h | h | h | h <;> rw [h] <;> decide
  have hw64 : 0 ≤ wordI (bytesI lab) ∧ wordI (bytesI lab) < 18446744073709551616 := ⟨hwb.1, by omega⟩
  clear hwb hw7
  go_enter Try.func42, Try.ntmps42
  go_wp2_with fail
  refine (rWords_any w.heap.size lab.size _ (bytesI lab) _ (bytesI_new w lab) hl0 hl7).mono ?_
  rintro e w1 ⟨v1, rfl, hO1, hb1⟩
  have hb01 := (bytesI_below w lab).trans (hb1.mono (bytesI_below w lab).size)
  replace hO1 := hO1.base (bytesI_below w lab).size
  have hz1 := hb01.size
  have hn64 : (0 : Int) ≤ (n : Int) ∧ (n : Int) < 18446744073709551616 := by omega
  clear hconv hb1
  generalize grownCap w lab.size 0 5 = cap at *
  go_wp2_with (at_builtin; refine app_one (y := (n : Int)) rfl _ _ rfl hO1 rfl rfl hn64 (by omega) hz1 ?_; intro v2 w2 hO2 hb2)
  have hb02 := hb01.trans hb2
  clear hO1 hb01 hb2 hz1
  go_loopw [5, 6] (fun ov iv wr => ∃ i : Nat, i ≤ n ∧ iv = .int .i64 i ∧ Own wr w.heap.size ov (2 + i) ([wordI (bytesI lab), (n : Int)] ++ (xs.map fun x => V (T x)).take i) ∧ Below w.heap.size w wr) (fun _ iv _ => n - (intOf iv).toNat)
  case atStart => exact ⟨0, Nat.zero_le _, rfl, by rw [List.take_zero]; exact hO2, hb02⟩
  case round =>
    clear hO2 hb02
    obtain ⟨i, hi, rfl, hO, hb⟩ := hrel
    have hz := hb.size
    by_cases hlt : i < n
    · obtain ⟨b, off, rfl, _, hcell, hx0, hx1⟩ := (hX.below hb).look hlt
      have hst : Hid ([wordI (bytesI lab), (n : Int)] ++ (xs.map fun x => V (T x)).take (i + 1) = [wordI (bytesI lab), (n : Int)] ++ (xs.map fun x => V (T x)).take i ++ [nth xs i % 2305843009213693951]) := Lib.hid (by
        have hil : i < xs.length := by rw [hXl.out]; exact hlt
        rw [List.take_succ_eq_append_getElem (by simpa using hil), ← List.append_assoc, List.getElem_map, nth_eq hil, V_T])
      have hy : 0 ≤ nth xs i % 2305843009213693951 ∧ nth xs i % 2305843009213693951 < 18446744073709551616 := by omega
      go_wp2_with (at_builtin; refine app_one (y := nth xs i % 2305843009213693951) rfl _ _ rfl hO rfl rfl hy (by omega) hz ?_; intro v3 w3 hO3 hb3)
      go_roundw
      case rel => exact ⟨i + 1, by omega, by go_num, by rw [hst.out]; exact hO3, hb.trans hb3⟩
      case measure => simp [intOf]; omega
    · obtain rfl : i = n := by omega
      go_wp2_with (at_builtin; refine app_one (y := 0) rfl _ _ rfl hO rfl rfl (by omega) (by omega) hz ?_; intro v3 w3 hO3 hb3)
      rw [hwords_take _ _ hXl.out] at hO3
      have hb03 := hb.trans hb3
      obtain ⟨p3, c3, rfl, hc3, hU3⟩ := hO3.u
      obtain ⟨m, hm⟩ : ∃ m, 2 + i + 1 = m := ⟨_, rfl⟩
      rw [hm] at hU3 ⊢
      have hml : Hid ((hwords (bytesI lab) xs).length = m) := Lib.hid (by rw [hwords_len, hXl.out]; omega)
      have hm1 : m ≤ 1000003 := by omega
      clear hO hO3 hb hb3 hz hm
      obtain ⟨hw, ehw⟩ : ∃ hw, Hid (hwords (bytesI lab) xs = hw) := ⟨_, Lib.hid rfl⟩
      rw [ehw.out] at hU3 hml
      have h0s : Hid ((lab.size : Int) = V (hrun (T (bytesI lab).length) 0 (hw.take 0))) := Lib.hid (by rw [List.take_zero, bytesI_len]; exact (T_small _ (by omega) (by omega)).symm)
      obtain ⟨w4, e4⟩ : ∃ w4, Hid (w3 = w4) := ⟨_, Lib.hid rfl⟩
      rw [e4.out] at hU3 hb03 ⊢
      clear e4
      go_wp2_with fail
      go_loopw [7, 8] (fun sv iv wr => ∃ k : Nat, k ≤ m ∧ iv = .int .i64 k ∧ sv = .int .u64 (V (hrun (T (bytesI lab).length) 0 (hw.take k))) ∧ Below w4.heap.size w4 wr) (fun _ iv _ => m - (intOf iv).toNat)
      case atStart => exact ⟨0, Nat.zero_le _, rfl, by rw [h0s.out], Below.refl _ _⟩
      case round =>
        clear h0s
        obtain ⟨k, hk, rfl, rfl, hbr⟩ := hrel
        by_cases hlk : k < m
        · obtain ⟨b, off, rfl, _, hcell, hx0, hx1⟩ := (hU3.below hbr).look hlk
          have hst : Hid (hrun (T (bytesI lab).length) 0 (hw.take (k + 1)) = fpow (T 37 * hrun (T (bytesI lab).length) 0 (hw.take k) + (T (nth hw k) + T ((k : Int) + 1))) 17) := Lib.hid (by
            have hkl : k < hw.length := by rw [hml.out]; exact hlk
            rw [List.take_succ_eq_append_getElem hkl, hrun_snoc, List.length_take, Nat.min_eq_left (by omega), Nat.zero_add, nth_eq hkl]
            unfold stepF
            rw [T_add])
          generalize hrun (T (bytesI lab).length) 0 (hw.take k) = s at *
          generalize nth hw k = x at *
          have hbd : Below wr.heap.size wr wr.drew := (Below.refl _ _).drew
          have it0 : (0 : Int) ≤ (k : Int) := by omega
          have it1 : (k : Int) < (m : Int) := by omega
          have hr1 : IntKind.i64.wrap ((k : Int) + 1) = (k : Int) + 1 := IntWalk.i64_in _ (by omega)
          have hr2 : IntKind.u64.wrap ((k : Int) + 1) = (k : Int) + 1 := IntWalk.u64_in _ (by omega)
          go_wp2_with fail
          go_region_held3 (fun W => W.cell? ⟨b, off + k, none⟩ = some (.int .u64 x) ∧ Below wr.heap.size wr W) (exact keep1h (by assumption) hcell) (first
            | (go_simp; go_at_call 36; (with_reducible refine (rmul_b (by assumption) _ _ (by omega) (by omega) (V_lo _) (V_64 _)).mono ?_); rintro e w9 ⟨rfl, hb9⟩)
            | (go_simp; go_at_call 57; (with_reducible refine (radd_any _ _ _ (V_lo _) (V_64 _) (V_lo _) (V_64 _)).mono ?_); rintro e w9 ⟨rfl, rfl⟩)
            | (go_simp; go_at_call 57; (try rw [hr1]); (try rw [hr2]); (with_reducible refine (radd_any _ _ _ hx0 hx1 (by omega) (by omega)).mono ?_); rintro e w9 ⟨rfl, rfl⟩)
            | fail)
          go_wp2_with fail
          refine (rpow_b (by assumption) _ _ (V_lo _) (V_64 _) (by omega) (by omega)).mono ?_
          rintro e w10 ⟨rfl, hb10⟩
          rw [T_V, ← hst.out]
          go_wp2_with fail
          go_roundw
          case rel => exact ⟨k + 1, by omega, by go_num, rfl, hbr.trans (hb10.mono hbr.size)⟩
          case measure => simp [intOf]; omega
        · obtain rfl : k = m := by omega
          have hfin : Hid (hrun (T (bytesI lab).length) 0 (hw.take k) = hashF (bytesI lab) xs) := Lib.hid (by
            rw [List.take_of_length_le (by rw [hml.out]; exact Nat.le_refl _), ← ehw.out]; rfl)
          rw [hfin.out]
          go_wp2_with fail
          go_ret
          exact ⟨rfl, hb03.trans (hbr.mono hb03.size)⟩
end Go.Proofs.Ytelnhpcehmdffaa

namespace Go.Proofs.Ytelnhpcehmdffaa
open Go.RowKit
attribute [local go_sem] T_V

/-- The label's bytes. -/
def elemL : ByteArray := { data := #[101, 108, 101, 109] }
/-- The element of a name. -/
def elemE (x y z : Int) : Int := 1 + V (hashF (bytesI elemL) [IntKind.u64.wrap x, IntKind.u64.wrap y, z]) % 1152921504606846976
theorem elemE_bd (x y z : Int) : 1 ≤ elemE x y z ∧ elemE x y z ≤ 1152921504606846976 := by unfold elemE; omega
theorem wrap_bd (x : Int) : 0 ≤ IntKind.u64.wrap x ∧ IntKind.u64.wrap x < 18446744073709551616 := by rw [IntKind.wrap_u64]; omega
set_option maxRecDepth 100000 in
theorem Elem_any (x y z : Int) (w : World) (hz0 : 0 ≤ z) (hz1 : z < 18446744073709551616) :
    Calls Try.prog 24 #[.agg #[.int .i64 x, .int .i64 y, .int .u64 z]] w fun e w' => e = .returned (.int .u64 (elemE x y z)) ∧ Below w.heap.size w w' := by
  have hA := Arr.new w 44 [.int .i64 x, .int .i64 y, .int .u64 z]
  have c0 := hA.cell (i := 0) (by simp)
  have c1 := hA.cell (i := 1) (by simp)
  have c2 := hA.cell (i := 2) (by simp)
  have hb0 := Below.lit w (.cells #[.int .i64 x, .int .i64 y, .int .u64 z] 44)
  have hL := U_lit (w.alloc (.cells #[.int .i64 x, .int .i64 y, .int .u64 z] 44)) 40 [IntKind.u64.wrap x, IntKind.u64.wrap y, z] #[.int .u64 (IntKind.u64.wrap x), .int .u64 (IntKind.u64.wrap y), .int .u64 z] 3 rfl rfl (by
    intro u hu
    simp only [List.mem_cons, List.not_mem_nil, or_false] at hu
    rcases hu with rfl | rfl | rfl
    · exact wrap_bd x
    · exact wrap_bd y
    · exact ⟨hz0, hz1⟩)
  rw [World.size_alloc] at hL
  have hb1 := hb0.trans ((Below.lit (w.alloc (.cells #[.int .i64 x, .int .i64 y, .int .u64 z] 44)) (.cells #[.int .u64 (IntKind.u64.wrap x), .int .u64 (IntKind.u64.wrap y), .int .u64 z] 40)).mono hb0.size)
  replace c0 : (w.alloc (.cells #[.int .i64 x, .int .i64 y, .int .u64 z] 44)).cell? ⟨w.heap.size, 0, none⟩ = some (.int .i64 x) := c0
  replace c1 : (w.alloc (.cells #[.int .i64 x, .int .i64 y, .int .u64 z] 44)).cell? ⟨w.heap.size, 1, none⟩ = some (.int .i64 y) := c1
  replace c2 : (w.alloc (.cells #[.int .i64 x, .int .i64 y, .int .u64 z] 44)).cell? ⟨w.heap.size, 2, none⟩ = some (.int .u64 z) := c2
  go_enter Try.func24, Try.ntmps24
  go_wp2_with fail
  change Calls _ _ #[.string elemL, _] _ _
  refine (hOf_any elemL _ 3 3 _ _ (by decide) (by decide) hL (by omega)).mono ?_
  rintro e w2 ⟨rfl, hb2⟩
  obtain ⟨h, hh, hel⟩ : ∃ h : F, Hid (hashF (bytesI elemL) [IntKind.u64.wrap x, IntKind.u64.wrap y, z] = h) ∧ Hid (1 + V h % 1152921504606846976 = elemE x y z) := ⟨_, Lib.hid rfl, Lib.hid rfl⟩
  rw [hh.out]
  have h0 := V_lo h
  have h1 := V_hi h
  go_wp2_with fail
  go_ret
  exact ⟨ret_int hel.out, hb1.trans (hb2.mono hb1.size)⟩
set_option maxRecDepth 100000 in
theorem rElem_any (x y z : Int) (w : World) (hz0 : 0 ≤ z) (hz1 : z < 18446744073709551616) :
    Calls Try.prog 25 #[.agg #[.int .i64 x, .int .i64 y, .int .u64 z]] w fun e w' => e = .returned (.int .u64 (elemE x y z)) ∧ Below w.heap.size w w' := by
  have hA := Arr.new w 44 [.int .i64 x, .int .i64 y, .int .u64 z]
  have c0 := hA.cell (i := 0) (by simp)
  have c1 := hA.cell (i := 1) (by simp)
  have c2 := hA.cell (i := 2) (by simp)
  have hb0 := Below.lit w (.cells #[.int .i64 x, .int .i64 y, .int .u64 z] 44)
  have hL := U_lit (w.alloc (.cells #[.int .i64 x, .int .i64 y, .int .u64 z] 44)) 40 [IntKind.u64.wrap x, IntKind.u64.wrap y, z] #[.int .u64 (IntKind.u64.wrap x), .int .u64 (IntKind.u64.wrap y), .int .u64 z] 3 rfl rfl (by
    intro u hu
    simp only [List.mem_cons, List.not_mem_nil, or_false] at hu
    rcases hu with rfl | rfl | rfl
    · exact wrap_bd x
    · exact wrap_bd y
    · exact ⟨hz0, hz1⟩)
  rw [World.size_alloc] at hL
  have hb1 := hb0.trans ((Below.lit (w.alloc (.cells #[.int .i64 x, .int .i64 y, .int .u64 z] 44)) (.cells #[.int .u64 (IntKind.u64.wrap x), .int .u64 (IntKind.u64.wrap y), .int .u64 z] 40)).mono hb0.size)
  replace c0 : (w.alloc (.cells #[.int .i64 x, .int .i64 y, .int .u64 z] 44)).cell? ⟨w.heap.size, 0, none⟩ = some (.int .i64 x) := c0
  replace c1 : (w.alloc (.cells #[.int .i64 x, .int .i64 y, .int .u64 z] 44)).cell? ⟨w.heap.size, 1, none⟩ = some (.int .i64 y) := c1
  replace c2 : (w.alloc (.cells #[.int .i64 x, .int .i64 y, .int .u64 z] 44)).cell? ⟨w.heap.size, 2, none⟩ = some (.int .u64 z) := c2
  go_enter Try.func25, Try.ntmps25
  go_wp2_with fail
  change Calls _ _ #[.string elemL, _] _ _
  refine (rhOf_any elemL _ 3 3 _ _ (by decide) (by decide) hL (by omega)).mono ?_
  rintro e w2 ⟨rfl, hb2⟩
  obtain ⟨h, hh, hel⟩ : ∃ h : F, Hid (hashF (bytesI elemL) [IntKind.u64.wrap x, IntKind.u64.wrap y, z] = h) ∧ Hid (1 + V h % 1152921504606846976 = elemE x y z) := ⟨_, Lib.hid rfl, Lib.hid rfl⟩
  rw [hh.out]
  have h0 := V_lo h
  have h1 := V_hi h
  go_wp2_with fail
  go_ret
  exact ⟨ret_int hel.out, hb1.trans (hb2.mono hb1.size)⟩
end Go.Proofs.Ytelnhpcehmdffaa

