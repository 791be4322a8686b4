/-
  Rolls; plain Lean: who is in, what may be done, what becomes of it. No program in sight.
-/
import Derived.WalkKit
namespace Go.Proofs.YtkolilbebkkpdaaDoor
open Go.RowKit

/-! Lists of pairs. -/
section
variable {α β : Type} [DecidableEq α]
/-- What stands at a key. -/
def lk (ks : List (α × β)) (a : α) : Option β := (ks.find? fun p => decide (p.1 = a)).map Prod.snd
/-- A key gets a value. -/
def putL (ks : List (α × β)) (a : α) (b : β) : List (α × β) := if (lk ks a).isSome then ks.map fun p => if p.1 = a then (a, b) else p else ks ++ [(a, b)]
/-- A key goes. -/
def dropL (ks : List (α × β)) (a : α) : List (α × β) := ks.filter fun p => decide (p.1 ≠ a)
theorem lk_nil (a : α) : lk ([] : List (α × β)) a = none := rfl
theorem lk_cons (p : α × β) (ks : List (α × β)) (a : α) : lk (p :: ks) a = if p.1 = a then some p.2 else lk ks a := by
  unfold lk
  by_cases h : p.1 = a
  · rw [List.find?_cons_of_pos (by simpa using h), if_pos h]; rfl
  · rw [List.find?_cons_of_neg (by simpa using h), if_neg h]
theorem lk_append (ks js : List (α × β)) (a : α) : lk (ks ++ js) a = match lk ks a with | some b => some b | none => lk js a := by
  induction ks with
  | nil => rfl
  | cons p ks ih =>
    rw [List.cons_append, lk_cons, lk_cons]
    by_cases h : p.1 = a
    · rw [if_pos h, if_pos h]
    · rw [if_neg h, if_neg h, ih]
theorem lk_mem {ks : List (α × β)} {a : α} {b : β} (h : lk ks a = some b) : (a, b) ∈ ks := by
  induction ks with
  | nil => cases h
  | cons p ks ih =>
    rw [lk_cons] at h
    by_cases e : p.1 = a
    · rw [if_pos e] at h
      injection h with h
      subst e; subst h
      exact List.mem_cons_self ..
    · rw [if_neg e] at h
      exact List.mem_cons_of_mem _ (ih h)
theorem lk_none {ks : List (α × β)} {a : α} : lk ks a = none ↔ ∀ p ∈ ks, p.1 ≠ a := by
  induction ks with
  | nil => exact ⟨fun _ _ h => (by cases h), fun _ => rfl⟩
  | cons p ks ih =>
    rw [lk_cons]
    by_cases e : p.1 = a
    · rw [if_pos e]
      exact ⟨fun h => (by cases h), fun h => absurd e (h p (List.mem_cons_self ..))⟩
    · rw [if_neg e, ih]
      exact ⟨fun h q hq => by
        rcases List.mem_cons.1 hq with rfl | hq
        · exact e
        · exact h q hq, fun h q hq => h q (List.mem_cons_of_mem _ hq)⟩
theorem lk_of_mem {ks : List (α × β)} {a : α} {b : β} (hn : (ks.map Prod.fst).Nodup) (h : (a, b) ∈ ks) : lk ks a = some b := by
  induction ks with
  | nil => cases h
  | cons p ks ih =>
    rw [List.map_cons, List.nodup_cons] at hn
    rw [lk_cons]
    rcases List.mem_cons.1 h with rfl | h
    · rw [if_pos rfl]
    · have : p.1 ≠ a := fun e => hn.1 (e ▸ List.mem_map.2 ⟨_, h, rfl⟩)
      rw [if_neg this, ih hn.2 h]
theorem lk_isSome {ks : List (α × β)} {a : α} : (lk ks a).isSome = true ↔ a ∈ ks.map Prod.fst := by
  cases h : lk ks a with
  | none =>
    rw [lk_none] at h
    constructor
    · intro h2; cases h2
    · intro h2
      obtain ⟨p, hp, e⟩ := List.mem_map.1 h2
      exact absurd e (h p hp)
  | some b => exact ⟨fun _ => List.mem_map.2 ⟨_, lk_mem h, rfl⟩, fun _ => rfl⟩
theorem lk_map {γ : Type} (f : β → γ) (ks : List (α × β)) (a : α) : lk (ks.map fun p => (p.1, f p.2)) a = (lk ks a).map f := by
  induction ks with
  | nil => rfl
  | cons p ks ih =>
    rw [List.map_cons, lk_cons, lk_cons]
    by_cases h : p.1 = a
    · rw [if_pos h, if_pos h]; rfl
    · rw [if_neg h, if_neg h, ih]
theorem lk_set (ks : List (α × β)) (a : α) (b : β) (j : α) : lk (ks.map fun p => if p.1 = a then (a, b) else p) j = if j = a then (lk ks a).map (fun _ => b) else lk ks j := by
  induction ks with
  | nil => by_cases h : j = a <;> simp [h, lk_nil]
  | cons p ks ih =>
    rw [List.map_cons, lk_cons, lk_cons, lk_cons, ih]
    by_cases hp : p.1 = a
    · rw [if_pos hp]
      by_cases hj : j = a
      · subst hj; simp [hp]
      · have h1 : a ≠ j := fun e => hj e.symm
        have h2 : p.1 ≠ j := fun e => hj (by rw [← e, hp])
        simp [hj, h1, h2]
    · rw [if_neg hp]
      by_cases hj : j = a
      · subst hj; simp [hp]
      · simp [hj]
theorem lk_putL (ks : List (α × β)) (a : α) (b : β) (j : α) : lk (putL ks a b) j = if j = a then some b else lk ks j := by
  unfold putL
  cases h : lk ks a with
  | none =>
    simp only [Option.isSome_none, Bool.false_eq_true, if_false]
    rw [lk_append, lk_cons, lk_nil]
    by_cases hj : j = a
    · subst hj; simp [h]
    · have : a ≠ j := fun e => hj e.symm
      cases hk : lk ks j <;> simp [hj, this]
  | some c =>
    simp only [Option.isSome_some, if_true]
    rw [lk_set, h]; rfl
theorem lk_dropL (ks : List (α × β)) (a j : α) : lk (dropL ks a) j = if j = a then none else lk ks j := by
  unfold dropL
  induction ks with
  | nil => simp [lk_nil]
  | cons p ks ih =>
    by_cases hp : p.1 = a
    · rw [List.filter_cons_of_neg (by simpa using hp), ih, lk_cons]
      by_cases hj : j = a
      · rw [if_pos hj, if_pos hj]
      · have h2 : p.1 ≠ j := fun e => hj (by rw [← e, hp])
        rw [if_neg hj, if_neg hj, if_neg h2]
    · rw [List.filter_cons_of_pos (by simpa using hp), lk_cons, lk_cons, ih]
      by_cases hj : j = a
      · subst hj; simp [hp]
      · simp [hj]
theorem keys_putL (ks : List (α × β)) (a : α) (b : β) : (putL ks a b).map Prod.fst = if a ∈ ks.map Prod.fst then ks.map Prod.fst else ks.map Prod.fst ++ [a] := by
  unfold putL
  by_cases h : a ∈ ks.map Prod.fst
  · rw [if_pos h, if_pos (lk_isSome.2 h), List.map_map]
    refine List.map_congr_left fun p _ => ?_
    show (if p.1 = a then (a, b) else p).1 = p.1
    by_cases e : p.1 = a
    · rw [if_pos e, e]
    · rw [if_neg e]
  · rw [if_neg h, if_neg (fun h2 => h (lk_isSome.1 h2)), List.map_append]; rfl
theorem nodup_putL {ks : List (α × β)} (h : (ks.map Prod.fst).Nodup) (a : α) (b : β) : ((putL ks a b).map Prod.fst).Nodup := by
  rw [keys_putL]
  by_cases e : a ∈ ks.map Prod.fst
  · rw [if_pos e]; exact h
  · rw [if_neg e]
    exact List.nodup_append.2 ⟨h, by simp, fun x hx y hy => by
      rw [List.mem_singleton] at hy
      subst hy
      intro e2
      exact e (e2 ▸ hx)⟩
theorem keys_dropL (ks : List (α × β)) (a : α) : (dropL ks a).map Prod.fst = (ks.map Prod.fst).filter fun x => decide (x ≠ a) := by
  unfold dropL
  rw [List.filter_map]; rfl
theorem nodup_dropL {ks : List (α × β)} (h : (ks.map Prod.fst).Nodup) (a : α) : ((dropL ks a).map Prod.fst).Nodup := by
  rw [keys_dropL]; exact h.filter _
theorem mem_putL {ks : List (α × β)} {a : α} {b : β} {p : α × β} (h : p ∈ putL ks a b) : p = (a, b) ∨ p ∈ ks := by
  unfold putL at h
  split at h
  · obtain ⟨q, hq, e⟩ := List.mem_map.1 h
    by_cases e2 : q.1 = a
    · rw [if_pos e2] at e; exact .inl e.symm
    · rw [if_neg e2] at e; exact .inr (e ▸ hq)
  · rcases List.mem_append.1 h with h | h
    · exact .inr h
    · exact .inl (List.mem_singleton.1 h)
theorem mem_dropL {ks : List (α × β)} {a : α} {p : α × β} : p ∈ dropL ks a ↔ p ∈ ks ∧ p.1 ≠ a := by
  unfold dropL
  rw [List.mem_filter, decide_eq_true_eq]
end
/-- Numbers, rising. -/
def sortI (l : List Int) : List Int := l.mergeSort fun x y => decide (x ≤ y)
theorem sortI_perm (l : List Int) : (sortI l).Perm l := List.mergeSort_perm l _
theorem sortI_rise (l : List Int) : (sortI l).Pairwise (· ≤ ·) :=
  (List.pairwise_mergeSort (le := fun x y => decide (x ≤ y)) (by intro a b c h1 h2; simp only [decide_eq_true_eq] at *; omega) (by intro a b; simp only [Bool.or_eq_true, decide_eq_true_eq]; omega) l).imp fun h => of_decide_eq_true h
theorem le_ext : ∀ (a b : List Int), a.Pairwise (· ≤ ·) → b.Pairwise (· ≤ ·) → a.Perm b → a = b := by
  intro a b ha hb h
  exact h.eq_of_pairwise (fun x y _ _ h1 h2 => by omega) ha hb
theorem sortI_eq {a b : List Int} (hb : b.Pairwise (· ≤ ·)) (h : a.Perm b) : sortI a = b := le_ext _ _ (sortI_rise a) hb ((sortI_perm a).trans h)
theorem sortI_congr {a b : List Int} (h : a.Perm b) : sortI a = sortI b := sortI_eq (sortI_rise b) (h.trans (sortI_perm b).symm)
theorem sortI_len (l : List Int) : (sortI l).length = l.length := (sortI_perm l).length_eq

/-! Operations, rolls. -/
structure Idn where
  b : Int
  s : Int
  u : Int
instance : DecidableEq Idn := fun x y =>
  if h : x.b = y.b ∧ x.s = y.s ∧ x.u = y.u then .isTrue (by cases x; cases y; obtain ⟨rfl, rfl, rfl⟩ := h; rfl) else .isFalse (fun e => h (by subst e; exact ⟨rfl, rfl, rfl⟩))
/-- An operation: by, seq, kind, at; device, old, member, role; of; guards; need, wait. All else is zero. -/
structure OpI where
  b : Int
  s : Int
  k : Int
  a : Int
  d : Int
  o : Int
  m : Int
  r : Int
  f : Idn
  gs : List Int
  n : Int
  t : Int
def OpI.name (o : OpI) (n : Int) : Idn := ⟨o.b, n + 1, o.k⟩
/-- A guard: its name, the devices, how many are needed, how long it waits; who vouched for which device, the least At; was objected; the greatest At of an objection. -/
structure Gd where
  id : Idn
  gs : List Int
  n : Int
  t : Int
  vo : List ((Int × Int) × Int)
  ob : Bool
  la : Int
structure Mb where
  r : Int
  g : Option Gd
/-- Who is in, who went; the members, in the row in which they came; how many messages newcomers get. -/
structure RS where
  ins : List Int
  gone : List Int
  ms : List (Int × Mb)
  bk : Int
def RS.new : RS := ⟨[], [], [], 0⟩
/-- Whose device it is. -/
def ofD (d : Int) : Int := if d = 1 then 1 else if d = 2 then 2 else if d = 3 then 3 else if d = 4 then 1 else if d = 5 then 2 else if d = 6 then 4 else if d = 7 then 1 else 0
theorem ofD_bd (d : Int) : 0 ≤ ofD d ∧ ofD d ≤ 4 := by unfold ofD; omega
theorem ofD_pos {d : Int} (h : 0 < ofD d) : 1 ≤ d ∧ d ≤ 7 := by unfold ofD at h; omega
def RS.memb (s : RS) (n : Int) : Option Mb := lk s.ms n
def rolI : Option Mb → Int
  | some m => m.r
  | none => 0
def RS.role (s : RS) (n : Int) : Int := rolI (s.memb n)
def RS.inB (s : RS) (d : Int) : Bool := decide (d ∈ s.ins)
def RS.wasB (s : RS) (d : Int) : Bool := decide (d ∈ s.ins ++ s.gone)
def RS.fresh (s : RS) (d : Int) : Bool := decide (0 < ofD d) && !s.wasB d
def gdO : Option Mb → Option Gd
  | some m => m.g
  | none => none
def isId (i : Idn) : Option Gd → Bool
  | some g => decide (g.id = i)
  | none => false
/-- The member whose guard it is; 0: nobody's. -/
def RS.whose (s : RS) (i : Idn) : Int := match s.ms.find? fun p => isId i p.2.g with | some p => p.1 | none => 0
def grd1 (o : OpI) (w : Int) : Option Gd → Int × Int
  | some g => if o.b ∈ g.gs then (w, 0) else (0, 14)
  | none => (0, 25)
def RS.guards (s : RS) (o : OpI) : Int × Int := if s.whose o.f = 0 then (0, 25) else grd1 o (s.whose o.f) (gdO (s.memb (s.whose o.f)))
/-- When a guard's devices vouched for a device. -/
def Gd.ats (g : Gd) (d : Int) : List Int := (g.vo.filter fun v => decide (v.1.2 = d)).map Prod.snd
def nthI (l : List Int) (i : Nat) : Int := l.getD i 0
def dueL (g : Gd) (l : List Int) : Int × Int :=
  if (l.length : Int) < g.n then (0, 26) else if g.ob = true ∧ nthI l 0 ≤ g.la then (0, 28) else (nthI l (g.n - 1).toNat + g.t, 0)
def dueG (d : Int) : Option Gd → Int × Int
  | some g => dueL g (sortI (g.ats d))
  | none => (0, 4)
def RS.due (s : RS) (n d : Int) : Int × Int := dueG d (gdO (s.memb n))
/-- No guard's name is borne twice. -/
def RS.idsU (s : RS) : Prop := ∀ i, ∀ p ∈ s.ms, ∀ q ∈ s.ms, isId i p.2.g = true → isId i q.2.g = true → p.1 = q.1
theorem RS.whose_of {s : RS} (h : s.idsU) {i : Idn} {p : Int × Mb} (hp : p ∈ s.ms) (hi : isId i p.2.g = true) : s.whose i = p.1 := by
  unfold RS.whose
  cases e : s.ms.find? fun p => isId i p.2.g with
  | none => have := List.find?_eq_none.1 e p hp; rw [hi] at this; exact absurd rfl this
  | some q =>
    have h1 := List.mem_of_find?_eq_some e
    have h2 : isId i q.2.g = true := by have := List.find?_some e; exact this
    exact h i q h1 p hp h2 hi
theorem RS.whose_none {s : RS} {i : Idn} (h : ∀ p ∈ s.ms, isId i p.2.g = false) : s.whose i = 0 := by
  unfold RS.whose
  rw [List.find?_eq_none.2 fun p hp => by rw [h p hp]; simp]
theorem RS.whose_cases (s : RS) (i : Idn) : (s.whose i = 0 ∧ ∀ p ∈ s.ms, isId i p.2.g = false) ∨ ∃ p ∈ s.ms, isId i p.2.g = true ∧ s.whose i = p.1 := by
  unfold RS.whose
  cases e : s.ms.find? fun p => isId i p.2.g with
  | none =>
    refine .inl ⟨rfl, fun p hp => ?_⟩
    have := List.find?_eq_none.1 e p hp
    cases h : isId i p.2.g
    · rfl
    · rw [h] at this; exact absurd rfl this
  | some q => exact .inr ⟨q, List.mem_of_find?_eq_some e, by have := List.find?_some e; exact this, rfl⟩
/-! What is asked of an operation, by its kind. -/
def RS.rules (s : RS) (m : Int) : Bool := decide (s.role m = 3)
def RS.askAdd (s : RS) (o : OpI) (m : Int) : Int := if s.fresh o.d = false then 17 else if s.rules m = false ∧ ofD o.d ≠ m then 14 else 0
def RS.askRemove (s : RS) (o : OpI) (m : Int) : Int :=
  if o.d ≠ 0 then (if s.inB o.d = false then 17 else if s.rules m = false ∧ ofD o.d ≠ m then 14 else 0)
  else if s.memb o.m = none then 16 else if s.rules m = false ∧ o.m ≠ m then 14 else 0
def RS.askPromote (s : RS) (o : OpI) (m : Int) : Int := if s.rules m = false then 14 else if s.memb o.m = none then 16 else 0
def RS.askMessage (s : RS) (_ : OpI) (m : Int) : Int := if s.role m < 2 then 14 else 0
def RS.askErase (s : RS) (o : OpI) (m : Int) : Int := if s.rules m = false ∧ ofD o.f.b ≠ m then 14 else 0
def RS.askGuard (s : RS) (o : OpI) (_ : Int) : Int := if ∀ d ∈ o.gs, d ∈ s.ins then 0 else 17
def RS.askOwn (s : RS) (o : OpI) (m : Int) : Int := if isId o.f (gdO (s.memb m)) = true then 0 else 25
def RS.askVouch (s : RS) (o : OpI) (_ : Int) : Int :=
  if (s.guards o).2 ≠ 0 then (s.guards o).2 else if ofD o.d ≠ (s.guards o).1 then 16 else if s.fresh o.d = false then 17 else 0
def RS.askReplace (s : RS) (o : OpI) (_ : Int) : Int :=
  if (s.guards o).2 ≠ 0 then (s.guards o).2
  else if s.inB o.o = false ∨ ofD o.o ≠ (s.guards o).1 ∨ s.fresh o.d = false ∨ ofD o.d ≠ (s.guards o).1 then 17
  else if (s.due (s.guards o).1 o.d).2 = 0 ∧ o.a < (s.due (s.guards o).1 o.d).1 then 27 else (s.due (s.guards o).1 o.d).2
def RS.ask (s : RS) (o : OpI) (m : Int) : Int :=
  if o.k = 2 then s.askAdd o m else if o.k = 3 then s.askRemove o m else if o.k = 5 then s.askPromote o m else if o.k = 6 then s.askMessage o m
  else if o.k = 8 then s.askErase o m else if o.k = 9 then s.askGuard o m else if o.k = 10 then s.askOwn o m else if o.k = 11 then s.askVouch o m
  else if o.k = 12 then s.askOwn o m else if o.k = 13 then s.askReplace o m else 0
def RS.may (s : RS) (o : OpI) : Int :=
  if o.k = 1 then (if ofD o.b = 0 then 17 else if s.ins ++ s.gone ≠ [] then 5 else 0)
  else if s.inB o.b = false then 15 else s.ask o (ofD o.b)
/-! What becomes of it. -/
def RS.comes (s : RS) (d r : Int) : RS :=
  if s.fresh d = true then ⟨s.ins ++ [d], s.gone, if (s.memb (ofD d)).isSome = true then s.ms else s.ms ++ [(ofD d, ⟨r, none⟩)], s.bk⟩ else s
def RS.goes (s : RS) (d : Int) : RS :=
  if d ∈ s.ins then ⟨s.ins.filter fun e => decide (e ≠ d), s.gone ++ [d], if ∃ e ∈ s.ins, e ≠ d ∧ ofD e = ofD d then s.ms else dropL s.ms (ofD d), s.bk⟩ else s
def RS.setM (s : RS) (n : Int) (m : Mb) : RS := ⟨s.ins, s.gone, s.ms.map fun p => if p.1 = n then (n, m) else p, s.bk⟩
def RS.goAll (s : RS) (m : Int) (l : List Int) : RS := l.foldl (fun s d => if ofD d = m then s.goes d else s) s
def vouchG (g : Gd) (o : OpI) : Gd :=
  match lk g.vo (o.b, o.d) with
  | some t => if o.a < t then ⟨g.id, g.gs, g.n, g.t, putL g.vo (o.b, o.d) o.a, g.ob, g.la⟩ else g
  | none => ⟨g.id, g.gs, g.n, g.t, putL g.vo (o.b, o.d) o.a, g.ob, g.la⟩
def objG (g : Gd) (o : OpI) : Gd := ⟨g.id, g.gs, g.n, g.t, g.vo, true, max g.la o.a⟩
def RS.doGuard (s : RS) (o : OpI) (i : Idn) : RS :=
  match s.memb (ofD o.b) with
  | some m => s.setM (ofD o.b) ⟨m.r, some ⟨i, o.gs, o.n, o.t, [], false, 0⟩⟩
  | none => s
def RS.doVouch (s : RS) (o : OpI) : RS :=
  if (s.guards o).2 = 0 then
    match s.memb (s.guards o).1 with
    | some ⟨r, some g⟩ => s.setM (s.guards o).1 ⟨r, some (vouchG g o)⟩
    | _ => s
  else s
def RS.doObject (s : RS) (o : OpI) : RS :=
  match s.memb (ofD o.b) with
  | some ⟨r, some g⟩ => if g.id = o.f then s.setM (ofD o.b) ⟨r, some (objG g o)⟩ else s
  | _ => s
def RS.doPromote (s : RS) (o : OpI) : RS :=
  match s.memb o.m with
  | some m => s.setM o.m ⟨o.r, m.g⟩
  | none => s
def RS.doReplace (s : RS) (o : OpI) : RS :=
  if 0 < s.whose o.f ∧ o.o ∈ s.ins ∧ ofD o.o = s.whose o.f ∧ ofD o.d = s.whose o.f then (s.comes o.d (s.role (ofD o.d))).goes o.o else s
def RS.doCreate (s : RS) (o : OpI) : RS :=
  if s.ins ++ s.gone = [] ∧ s.fresh o.b = true then ⟨(s.comes o.b 3).ins, (s.comes o.b 3).gone, (s.comes o.b 3).ms, o.n⟩ else s
def RS.act (s : RS) (o : OpI) (i : Idn) : RS :=
  if o.k = 1 then s.doCreate o else if o.k = 2 then s.comes o.d o.r
  else if o.k = 3 then (if o.d ≠ 0 then s.goes o.d else s.goAll o.m (sortI s.ins))
  else if o.k = 5 then s.doPromote o else if o.k = 9 then s.doGuard o i else if o.k = 11 then s.doVouch o
  else if o.k = 12 then s.doObject o else if o.k = 13 then s.doReplace o else s
end Go.Proofs.YtkolilbebkkpdaaDoor
