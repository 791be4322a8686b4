/-
  The contracts of the program's polynomials (4): what has given values (Newton's).
-/
import Derived.Test.YtelnhpcehmdffaaPolyC
import Derived.Test.YtelnhpcehmdffaaGa
import Derived.Deep.QuietTactic
import Derived.BigQuiet
namespace Go.Proofs.Ytelnhpcehmdffaa
open Go.RowKit
attribute [local go_sem] T_V

theorem map_TV (fs : List F) : (fs.map V).map T = fs := by
  rw [List.map_map]
  conv => rhs; rw [← List.map_id fs]
  apply List.map_congr_left
  intro x _
  exact T_V x
theorem mulF (p q : Option Addr) (n m : Nat) (P Q : List F) (c d : Nat) (w : World) (hP : U w p n (P.map V)) (hQ : U w q m (Q.map V)) (hn : n ≤ 17592186044416) (hm : m ≤ 17592186044416) :
    Calls Try.prog 72 #[.slice p n c, .slice q m d] w fun e w' => ∃ v, e = .returned v ∧ Fs w' v (trimF (mulL (trimF P) (trimF Q))) ∧ Below w.heap.size w w' := by
  have h := Mul_any p q n m (P.map V) (Q.map V) c d w hP hQ hn hm
  rwa [map_TV, map_TV] at h
theorem addF (p q : Option Addr) (n m : Nat) (P Q : List F) (c d : Nat) (w : World) (hP : U w p n (P.map V)) (hQ : U w q m (Q.map V)) (hn : n ≤ 35184372088832) (hm : m ≤ 35184372088832) :
    Calls Try.prog 63 #[.slice p n c, .slice q m d] w fun e w' => ∃ v, e = .returned v ∧ Fs w' v (trimF (addL P Q)) ∧ Below w.heap.size w w' := by
  have h := Add_any p q n m (P.map V) (Q.map V) c d w hP hQ hn hm
  rwa [map_TV, map_TV] at h

/-- A world in which all that was there stands as it stood. -/
def Gr (w w' : World) : Prop := Below w.heap.size w w'
theorem Gr.start (w : World) : Gr w w.drew := (Below.refl _ w).drew
theorem Gr.then {w w' w'' : World} (h : Gr w w') (k : Below w'.heap.size w' w'') : Gr w w'' := Below.trans h (k.mono (Below.size h))
theorem Gr.cell {w w' : World} (h : Gr w w') {a : Addr} {v : Value} (hc : w.cell? a = some v) : w'.cell? a = some v := (Below.cell h (cell_lt hc)).trans hc

theorem U_one (w : World) (t : TypeId) (x : F) : U (w.alloc (.cells #[.int .u64 (V x)] t)) (some ⟨w.heap.size, 0, none⟩) 1 ([x].map V) :=
  ⟨rfl, (Arr.new w t [.int .u64 (V x)]).rd, by intro y hy; simp only [List.map_cons, List.map_nil, List.mem_singleton] at hy; subst hy; exact ⟨V_lo _, V_64 _⟩⟩
theorem U_two (w : World) (t : TypeId) (x y : F) : U (w.alloc (.cells #[.int .u64 (V x), .int .u64 (V y)] t)) (some ⟨w.heap.size, 0, none⟩) 2 ([x, y].map V) :=
  ⟨rfl, (Arr.new w t [.int .u64 (V x), .int .u64 (V y)]).rd, by
    intro z hz; simp only [List.map_cons, List.map_nil, List.mem_cons, List.not_mem_nil, or_false] at hz
    rcases hz with rfl | rfl <;> exact ⟨V_lo _, V_64 _⟩⟩
theorem newton_mul_len (A B : List F) : (trimF (mulL (trimF A) (trimF B))).length ≤ A.length + B.length := by
  refine Nat.le_trans (trimF_length _) ?_
  have e : ∀ p q : List F, (mulL p q).length ≤ p.length + q.length := by
    intro p q; induction p with
    | nil => simp [mulL]
    | cons a p ih => rw [mulL, addL_length, List.length_map, List.length_cons, List.length_cons]; omega
  have := e (trimF A) (trimF B)
  have := trimF_length A
  have := trimF_length B
  omega

end Go.Proofs.Ytelnhpcehmdffaa
