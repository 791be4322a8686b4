/-
  Lists that may be written: blocks of the call's own; what Diff tells, and how long its lists are.
-/
import Derived.Test.YtelnhpcehmdffaaGz
namespace Go.Proofs.Ytelnhpcehmdffaa
open Go.RowKit
attribute [local go_sem] T_V

/-- A slice whose cells lie in a block between B and C, whole, and not frozen. -/
def Wr (w : World) (B C : Nat) (p : Option Addr) (n : Nat) : Prop := n = 0 ∨ ∃ g cur t, p = some ⟨g, 0, none⟩ ∧ B ≤ g ∧ g < C ∧ w.heap[g]? = some (.cells cur t (0, 0)) ∧ n ≤ cur.size
theorem Own.wr {w : World} {base n c m : Nat} {p : Option Addr} {xs : List Int} (h : Own w base (.slice p m c) n xs) : Wr w base w.heap.size p n := by
  rcases h.row.2 with ⟨_, h0⟩ | ⟨g, cap, cur, hv, hb, hg, hnc, hcm, hcs, _⟩
  · exact .inl h0
  · injection hv with h1
    exact .inr ⟨g, cur, _, h1, hb, (Array.getElem?_eq_some_iff.1 hg).1, hg, by omega⟩
theorem Wr.nil (w : World) (B C : Nat) (p : Option Addr) : Wr w B C p 0 := .inl rfl
theorem Wr.look {w : World} {B C : Nat} {p : Option Addr} {n : Nat} (h : Wr w B C p n) {i : Nat} (hi : i < n) : ∃ g v, p = some ⟨g, 0, none⟩ ∧ B ≤ g ∧ g < C ∧ w.cell? ⟨g, i, none⟩ = some v ∧ w.frozen? ⟨g, i, none⟩ = false := by
  rcases h with h | ⟨g, cur, t, hp, h1, h2, hg, hs⟩
  · omega
  · exact ⟨g, cur[i], hp, h1, h2, by simp [World.cell?, hg, show i < cur.size by omega], by simp [World.frozen?, hg]⟩
theorem Wr.put {w : World} {B C : Nat} {p : Option Addr} {n : Nat} (h : Wr w B C p n) (g i : Nat) (u : Value) : Wr (w.setCell ⟨g, i, none⟩ u) B C p n := by
  rcases h with h | ⟨g', cur, t, hp, h1, h2, hg, hs⟩
  · exact .inl h
  · by_cases e : g = g'
    · subst e
      refine .inr ⟨g, cur.set! i u, t, hp, h1, h2, ?_, by simpa using hs⟩
      show (w.heap.modify g _)[g]? = _
      rw [Array.getElem?_modify, if_pos rfl, hg]
      simp
    · refine .inr ⟨g', cur, t, hp, h1, h2, ?_, hs⟩
      show (w.heap.modify g _)[g']? = _
      rw [Array.getElem?_modify, if_neg e]
      exact hg
theorem Wr.below {w w' : World} {B C : Nat} {p : Option Addr} {n : Nat} (h : Wr w B C p n) (hb : Below w.heap.size w w') : Wr w' B C p n := by
  rcases h with h | ⟨g, cur, t, hp, h1, h2, hg, hs⟩
  · exact .inl h
  · exact .inr ⟨g, cur, t, hp, h1, h2, (hb.block g (Array.getElem?_eq_some_iff.1 hg).1).trans hg, hs⟩
theorem BoxAt.other {w : World} {b : Nat} {n : Int} {v : Value} (h : BoxAt w b n v) {g : Nat} (hg : g ≠ b) (i : Nat) (u : Value) : BoxAt (w.setCell ⟨g, i, none⟩ u) b n v := by
  have e : (w.setCell ⟨g, i, none⟩ u).heap[b]? = w.heap[b]? := by
    show (w.heap.modify g _)[b]? = _
    rw [Array.getElem?_modify, if_neg hg]
  exact ⟨(World.cell?_of_block e).trans h.c0, (World.cell?_of_block e).trans h.c1⟩
/-- What Diff tells, and how long its lists are. -/
def Verdict (m : Nat) (L M : List F) (er : Int) (nx ny : Nat) : Prop :=
  (er = 0 ∧ ∃ X Y, FitsS m L M X Y ∧ Rise X ∧ Rise Y ∧ X.length = nx ∧ Y.length = ny) ∨ (er = 32 ∧ nx = 0 ∧ ny = 0 ∧ ∀ X Y, ¬ FitsS m L M X Y)
theorem Verdict.same {m : Nat} {L M : List F} {er er2 : Int} {nx ny nx2 ny2 : Nat} (hm : m ≤ 1000) (hL : SetOk L) (hM : SetOk M) (h : Verdict m L M er nx ny) (k : Verdict m L M er2 nx2 ny2) : er = er2 ∧ nx = nx2 ∧ ny = ny2 := by
  rcases h with ⟨h1, X, Y, h2, h3, h4, h5, h6⟩ | ⟨h1, h2, h3, h4⟩
  · rcases k with ⟨k1, X2, Y2, k2, k3, k4, k5, k6⟩ | ⟨_, _, _, k4⟩
    · obtain ⟨rfl, rfl⟩ := FitsS.same hm hL hM h2 k2 h3 h4 k3 k4
      exact ⟨by rw [h1, k1], by rw [← h5, k5], by rw [← h6, k6]⟩
    · exact absurd h2 (k4 _ _)
  · rcases k with ⟨_, X2, Y2, k2, _⟩ | ⟨k1, k2, k3, _⟩
    · exact absurd k2 (h4 _ _)
    · exact ⟨by rw [h1, k1], by rw [h2, k2], by rw [h3, k3]⟩
theorem Verdict.few {m : Nat} {L M : List F} {er : Int} {nx ny : Nat} (h : Verdict m L M er nx ny) : nx ≤ m ∧ ny ≤ m := by
  rcases h with ⟨_, X, Y, h2, _, _, h5, h6⟩ | ⟨_, h2, h3, _⟩
  · have := h2.few; omega
  · omega
/-- .. as what a call returns. -/
def RetsW (e : Ending) (w' : World) (B : Nat) (m : Nat) (L M : List F) : Prop :=
  ∃ px nx cx py ny cy er, e = .returned (.tuple #[.slice px nx cx, .slice py ny cy, .int .i64 er]) ∧ Wr w' B w'.heap.size px nx ∧ Wr w' B w'.heap.size py ny ∧ (nx ≤ m ∧ ny ≤ m) ∧ Hid (Verdict m L M er nx ny)
theorem RetsD.w {e : Ending} {w' : World} {B m : Nat} {L M : List F} (h : RetsD e w' B m L M) : RetsW e w' B m L M := by
  rcases h with ⟨X, Y, p1, c1, p2, c2, he, h1, h2, hf⟩ | ⟨he, hno⟩
  · have hv : Verdict m L M 0 X.length Y.length := .inl ⟨rfl, X, Y, hf.out.1, hf.out.2.1, hf.out.2.2, rfl, rfl⟩
    exact ⟨p1, _, c1, p2, _, c2, 0, he, h1.wr, h2.wr, hv.few, Lib.hid hv⟩
  · have hv : Verdict m L M 32 0 0 := .inr ⟨rfl, rfl, rfl, hno.out⟩
    exact ⟨none, 0, 0, none, 0, 0, 32, he, .inl rfl, .inl rfl, hv.few, Lib.hid hv⟩
theorem Of_w {p : Option Addr} {n : Nat} {L : List F} (c : Nat) {w : World} (m : Nat) {z : Int} (hz : z = m) (hX : U w p n (L.map V)) (hn : n ≤ 1000000) (hm : m < 1000) :
    Calls Try.prog 16 #[.slice p n c, .int .i64 z] w fun e w' => (∃ q d, e = .returned (.agg #[.int .i64 n, .slice q m d]) ∧ Wr w' w.heap.size w'.heap.size q m) ∧ Below w.heap.size w w' := by
  subst hz
  refine (SkOf_any p n _ c m w hX hn hm).mono fun _ _ ⟨v, he, ho, hb⟩ => ?_
  obtain ⟨q, d, rfl, hc, hU⟩ := ho.u
  exact ⟨⟨q, d, he, ho.wr⟩, hb⟩
theorem Nums2_s {p : Option Addr} {n : Nat} {xs : List Int} {c : Nat} (most : Nat) {z : Int} (hz : z = most) {w : World} (hU : U w p n xs) (hc : n ≤ c) (hp : p = none → c = 0) (hn : n ≤ most) (hm : most ≤ 1000000) :
    Calls Try.prog 23 #[.slice p n c, .int .i64 z] w fun e w' => (∃ q d, e = .returned (.slice q n d) ∧ U w' q n xs) ∧ Below w.heap.size w w' := by
  subst hz
  refine (Nums2_any p n xs c most w hU hc hp hn hm).mono fun _ _ ⟨v, he, ho, hb⟩ => ?_
  obtain ⟨q, d, rfl, _, hU⟩ := ho.u
  exact ⟨⟨q, d, he, hU⟩, hb⟩
end Go.Proofs.Ytelnhpcehmdffaa
