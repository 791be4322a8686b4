/-
  The walks of the statements on shares (6): what shares tell is the document's.
-/
import Derived.Test.YtpngkdhfjginlaaShLawE
import Derived.Test.YtpngkdhfjginlaaShI
import Derived.Deep.RegionLaw
import Derived.Deep.AppendLies
import Derived.Handy
namespace Go.Proofs.Ytpngkdhfjginlaa
open Go.RowKit
attribute [local go_sem] T_V

theorem flat_take (l : List (Int × Int)) (k : Nat) : (flat l).take (k * 2) = flat (l.take k) := by
  induction k generalizing l with
  | zero => simp [flat]
  | succ k ih => cases l with
    | nil => simp [flat]
    | cons a l =>
      have e : flat (a :: l) = .int .u64 a.1 :: .int .u64 a.2 :: flat l := by simp [flat]
      have e2 : flat (a :: l.take k) = .int .u64 a.1 :: .int .u64 a.2 :: flat (l.take k) := by simp [flat]
      rw [e, show (k + 1) * 2 = k * 2 + 1 + 1 by omega, List.take_succ_cons, List.take_succ_cons, ih, List.take_succ_cons, e2]
theorem Sh.take {w : World} {p : Option Addr} {n : Nat} {l : List (Int × Int)} (h : Sh w p n l) {k : Nat} (hk : k ≤ n) : Sh w p k (l.take k) :=
  ⟨by rw [List.length_take, h.len]; omega, by rw [← flat_take]; exact h.rd.take _, fun x hx => h.bd x (List.mem_of_mem_take hx)⟩
theorem OwnS.u' {w : World} {base : Nat} {v : Value} {n : Nat} {l : List (Int × Int)} (h : OwnS w base v n l) : ∃ p c, v = .slice p n c ∧ n ≤ c ∧ Sh w p n l ∧ (p = none → c = 0) := by
  obtain ⟨p, c, hv, hc, hU⟩ := h.u
  refine ⟨p, c, hv, hc, hU, fun hp => ?_⟩
  rcases h.row.2 with ⟨h1, _⟩ | ⟨g, cap, cur, h1, _⟩
  · rw [hv] at h1; injection h1
  · rw [hv, hp] at h1; injection h1 with h1; cases h1

/-- Shares made of places and values. -/
def smallL (ps vs : List Int) (k : Nat) : List (Int × Int) := (List.range k).map fun i => (around (nth ps i) 9, nth vs i)
theorem smallL_snoc (ps vs : List Int) (k : Nat) : smallL ps vs (k + 1) = smallL ps vs k ++ [(around (nth ps k) 9, nth vs k)] := by
  unfold smallL; rw [List.range_succ, List.map_append]; rfl

/-- append(out, s), as one step of a region that draws its order. -/
theorem app_step_sh {ops : Array Oper} {o : Oper} {a : Act} {K : Act → World → Prop} {Q : Exit → Act → World → Prop} {E : Prop} (hgd : o.guard = none) (s x : Operand)
    (ho : o.op = .call { callee := .builtin .append, args := #[s, x], argTypes := #[27, 27] }) {base : Nat} {v : Value} {n : Nat} {l : List (Int × Int)} {W : World} {y z : Int} {B : Nat}
    (hown : OwnS W base v n l) (hs : a.eval s = v) (hx : a.eval x = .slice (some ⟨B, 0, none⟩) 1 1) (hc0 : W.cell? ⟨B, 0, none⟩ = some (.int .u64 y)) (hc1 : W.cell? ⟨B, 1, none⟩ = some (.int .u64 z)) (hy : (0 ≤ y ∧ y < 18446744073709551616) ∧ 0 ≤ z ∧ z < 18446744073709551616) (hn : n ≤ 4398046511104) (hbase : base ≤ W.heap.size)
    (h : ∀ v' w', OwnS w' base v' (n + 1) (l ++ [(y, z)]) → Below base W w' → K (a.put o.dst v') w') :
    if Region.wanted o (yielded ops a.tmps) = true then Oper.wp Try.prog o a W K Q else E := by
  obtain ⟨i0, hi, hz0, hz1, hz2⟩ := info_parts sh_info
  refine step_append_lies W hgd s x 27 ho base 33 i0 (.agg #[.int .u64 0, .int .u64 0]) 2 16 Try.underlying27 hi hz0 hz1 hz2 rfl (by decide) v n _ hs hown.row
    ⟨B, 0, none⟩ 1 1 [.int .u64 y, .int .u64 z] hx rfl ?_ (by simp [Value.oneCell']) (by decide) (by unfold maxLen; omega) (by omega) hbase _ rfl ?_
  · intro j u hj
    rcases j with _ | _ | j
    · simp only [List.getElem?_cons_zero, Option.some.injEq] at hj
      subst hj
      exact hc0
    · simp only [List.getElem?_cons_succ, List.getElem?_cons_zero, Option.some.injEq] at hj
      subst hj
      exact hc1
    · simp at hj
  · intro g cap w' h1 h2 _ _
    have hb : Below base W w' := (Below.refl _ _).grown h2 hbase (fun k e => (hown.row.lt k e).1)
    refine h _ w' ⟨by rw [List.length_append, hown.len]; rfl, by rw [flat_snoc]; exact h1, ?_⟩ hb
    intro t ht
    rcases List.mem_append.1 ht with ht | ht
    · exact hown.bd t ht
    · rw [List.mem_singleton] at ht; subst ht; exact hy

/-- A slice of some shares. -/
def FewOk (w : World) (v : Value) : Prop := ∃ p n c l, v = .slice p n c ∧ Sh w p n l ∧ n ≤ 1000000
/-- Three lists of shares in a row. -/
theorem three_at {W : World} {B : Nat} {p1 p2 : Option Addr} {n1 n2 c1 c2 : Nat} {l1 l2 : List (Int × Int)} (hA : Arr W B 27 [.slice p1 n1 c1, .slice p2 n2 c2, .slice none 0 0]) (h1 : Sh W p1 n1 l1) (h2 : Sh W p2 n2 l2) (hn1 : n1 ≤ 1000000) (hn2 : n2 ≤ 1000000)
    (i : Nat) (hi : i < 3) : ∃ p n c l, W.cell? ⟨B, i, none⟩ = some (.slice p n c) ∧ Sh W p n l ∧ n ≤ 1000000 := by
  have h := hA.cell (i := i) (by simpa using hi)
  rcases i with _ | _ | _ | i
  · exact ⟨p1, n1, c1, l1, h, h1, hn1⟩
  · exact ⟨p2, n2, c2, l2, h, h2, hn2⟩
  · exact ⟨none, 0, 0, [], h, Sh.nil, by omega⟩
  · omega

set_option maxRecDepth 100000 in
set_option maxHeartbeats 1000000 in
theorem tells_walk (p : Option Addr) (n : Nat) (l : List (Int × Int)) (c : Nat) (x : Int) (q : Option Addr) (g : Nat) (ps : List Int) (d : Nat) (r : Option Addr) (hh : Nat) (vs : List Int) (f : Nat) (w : World) (hL : Sh w p n l) (hp : p = none → c = 0) (hn : n ≤ 9223372036854775807) (hnc : n ≤ c) (hx0 : 0 ≤ x) (hx1 : x < 18446744073709551616)
    (hI : UI w q g ps) (_hg : g ≤ 9223372036854775807) (hV : U w r hh vs) (_hhm : hh ≤ 9223372036854775807) :
    Calls Try.prog 4 #[.slice p n c, .int .u64 x, .slice q g d, .slice r hh f] w fun e w' => e = .returned (.bool true) ∧ Below w.heap.size w w' := by
  have hb0 : Below w.heap.size w (w.alloc (.cells #[] 33)) := (Below.refl _ _).alloc (Nat.le_refl _) _
  have hown0 : OwnS (w.alloc (.cells #[] 33)) w.heap.size (.slice (some ⟨w.heap.size, 0, none⟩) 0 0) 0 [] :=
    ⟨rfl, World.ownsRow_lit w #[] 0 (Nat.le_refl _) (by unfold maxLen; omega) rfl, fun s hs => by cases hs⟩
  have hT := (hL.take (k := min n 6) (Nat.min_le_left _ _)).below hb0
  go_enter Try.func4, Try.ntmps4
  by_cases h6 : n ≤ 6
  all_goals
    first | rw [Nat.min_eq_left h6] at hT | rw [Nat.min_eq_right (by omega)] at hT
    go_wp2_with (at_builtin; refine app_shs rfl _ _ rfl hown0 rfl rfl hT hp (by omega) hb0.size ?_; intro v' w1 hown1 hb1)
    rw [Nat.zero_add] at hown1
    have hF1 : FewOk w1 v' := by obtain ⟨p1, c1, h1, _, h2⟩ := hown1.u; exact ⟨p1, _, c1, _, h1, h2, by omega⟩
    clear hown1 hT
    have hb1 := hb0.trans hb1
    go_wp2_with fail
    go_loopw [10, 11] (fun o i wr => ∃ k : Nat, k ≤ g ∧ k ≤ hh ∧ k ≤ 6 ∧ i = .int .i64 k ∧ OwnS wr w1.heap.size o k (smallL ps vs k) ∧ Below w1.heap.size w1 wr)
      (fun _ i _ => g - (intOf i).toNat)
    case atStart => exact ⟨0, Nat.zero_le _, Nat.zero_le _, Nat.zero_le _, rfl, OwnS.nil _ _, Below.refl _ _⟩
    case round =>
      obtain ⟨k, hk1, hk2, hk3, rfl, hO, hb⟩ := hrel
      by_cases hc : k < g ∧ k < hh ∧ k < 6
      · obtain ⟨g1, g2, g3⟩ := hc
        obtain ⟨b, off, rfl, _, hd1, hy0, hy1⟩ := ((hI.below hb1).below hb).look g1
        obtain ⟨b2, off2, rfl, _, hd2, hz0, hz1⟩ := ((hV.below hb1).below hb).look g2
        obtain ⟨ha0, ha1⟩ := around_bd (nth ps k) 9 (by omega)
        have hsn := Lib.hid (smallL_snoc ps vs k)
        go_wp2
        have hix1 : (0 : Int) ≤ (k : Int) := by omega
        have hix2 : (k : Int) < (g : Int) := by omega
        have hix3 : (k : Int) < (hh : Int) := by omega
        have hwr : IntKind.u64.wrap (around (nth ps k) 9) = around (nth ps k) 9 := IntWalk.u64_in _ (by omega)
        go_region_law (first
          | (rw [if_pos (by rfl)]; go_simp; go_at_call 11; refine (Around_any (nth ps k) 9 _ hy0 hy1 (by omega) (by omega)).mono ?_; rintro e w' ⟨rfl, rfl⟩)
          | (refine app_step_sh (y := around (nth ps k) 9) (z := nth vs k) rfl (.tmp 45) (.tmp 57) rfl (hO.below (by go_grown)) rfl rfl (by go_cell) (by go_cell) ⟨⟨by omega, by omega⟩, hz0, hz1⟩ (by omega) (by have := hb.size; simp; omega) ?_
             intro v2 w3 hO3 hb3))
        all_goals
          clear hix1 hix2 hix3 hwr
          go_simp
          go_wp2
          go_roundw
          case rel => exact ⟨k + 1, by omega, by omega, by omega, by go_num, by rw [hsn.out]; exact hO3, hb.trans ((((Below.refl w1.heap.size wr).drew).alloc hb.size _).trans hb3)⟩
          case measure => simp [intOf]; omega
      · obtain ⟨p2, c2, rfl, hc2, hL2⟩ := hO.u
        obtain ⟨p1, n1, c1, l1, rfl, hL1, hn1⟩ := hF1
        have hA0 := Arr.new wr 27 [.slice p1 n1 c1, .slice p2 k c2, .slice none 0 0]
        have hdd : k < g ∧ k < hh ∧ ¬ k < 6 ∨ k < g ∧ ¬ k < hh ∨ ¬ k < g := by omega
        clear hc hO
        have hb2 := hb1.trans (hb.mono hb1.size)
        have hbA : Below wr.heap.size wr (wr.alloc (.cells #[.slice p1 n1 c1, .slice p2 k c2, .slice none 0 0] 27)) := (Below.refl _ _).alloc (Nat.le_refl _) _
        have h3 := Lib.hid (three_at hA0 ((hL1.below hb).below hbA) (hL2.below hbA) (by omega) (by omega))
        have hb3 := hb2.trans (hbA.mono hb2.size)
        obtain ⟨wB, eB⟩ : ∃ wB, Hid (wr.alloc (.cells #[.slice p1 n1 c1, .slice p2 k c2, .slice none 0 0] 27) = wB) := ⟨_, Lib.hid rfl⟩
        have h3 := Lib.hid (eB.out ▸ h3.out)
        rw [eB.out] at hb3
        clear hA0 hbA
        rcases hdd with ⟨g1, g2, g3⟩ | ⟨g1, g2⟩ | g1
        all_goals
          go_wp2_with fail
          rw [eB.out]
          obtain ⟨wt, rfl⟩ : ∃ wt : World, wt = wr := ⟨_, rfl⟩
          go_loopw [13] (fun i wy => ∃ i' : Nat, i' ≤ 3 ∧ i = .int .i64 i' ∧ Below wB.heap.size wB wy)
            (fun i _ => 3 - (intOf i).toNat)
          case atStart => exact ⟨0, Nat.zero_le _, rfl, Below.refl _ _⟩
          case round =>
            obtain ⟨i, hi, rfl, hbr⟩ := hrel
            by_cases hlt : i < 3
            · obtain ⟨pI, nI, cI, lI, hcI, hLI, hnI⟩ := h3.out i hlt
              have e1 : (tellV lI (T x) != tellV lI (T x)) = false := bne_self_eq_false _
              have e2 : (tellV lI 0 != tellV lI 0) = false := bne_self_eq_false _
              have e3 : (tellE lI != tellE lI) = false := bne_self_eq_false _
              have hLI := hLI.below hbr
              have d1 := below_cell' hbr hcI
              clear hcI
              go_wp2_with fail
              refine (At_tell pI nI lI cI x _ hLI hnI hx0 hx1).mono ?_
              rintro e w4 ⟨rfl, hb4⟩
              have hLI := hLI.below hb4
              have d2 := below_cell' hb4 d1
              clear d1
              go_wp2_with fail
              refine (rAt_tell pI nI lI cI x _ hLI hnI hx0 hx1).mono ?_
              rintro e w5 ⟨rfl, hb5⟩
              have hLI := hLI.below hb5
              have d1 := below_cell' hb5 d2
              clear d2
              go_wp2_with fail
              refine (Join_tell pI nI lI cI _ hLI hnI).mono ?_
              rintro e w6 ⟨rfl, hb6⟩
              have hLI := hLI.below hb6
              have d2 := below_cell' hb6 d1
              clear d1
              go_wp2_with fail
              refine (rAt_tell pI nI lI cI 0 _ hLI hnI (by omega) (by omega)).mono ?_
              rintro e w7 ⟨rfl, hb7⟩
              rw [T_zero]
              have hb47 := (hb4.trans (hb5.mono hb4.size)).trans ((hb6.trans (hb7.mono hb6.size)).mono (Nat.le_trans hb4.size hb5.size))
              clear d2
              go_wp2
              go_roundw
              case rel => exact ⟨i + 1, by omega, by go_num, hbr.trans (hb47.mono hbr.size)⟩
              case measure => simp [intOf]; omega
            · go_wp2_with fail
              refine (lives9 _).mono ?_
              rintro e w10 ⟨rfl, hb10⟩
              go_wp2
              go_ret
              have hb19 := hb3.trans (hbr.mono hb3.size)
              exact ⟨rfl, hb19.trans (hb10.mono hb19.size)⟩
end Go.Proofs.Ytpngkdhfjginlaa
