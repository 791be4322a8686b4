/-
  The document's roll; plain Lean: the vouches that count, behind each operation; devices that go, in whatever row.
  The document's roll: whole loads and stores of its structs; how many vouches there are.
  The document's roll: from which tick on a device may come in.
  The document's roll: what a Vouch, and a Replace, are asked.
-/
import Derived.Test.YtkolilbebkkpdaaDoorRmI
import Derived.Test.YtkolilbebkkpdaaDoorRsRoTw
import Derived.Laws.Tables
import Derived.Deep.MidRow
namespace Go.Proofs.YtkolilbebkkpdaaDoor

theorem VsOk.of_ms {s s' : RS} {vs : List VI} (h : VsOk s vs) (e : ∀ v : VI, (∃ p ∈ s'.ms, ∃ g, p.2.g = some g ∧ g.id = v.f ∧ ((v.b, v.d), v.a) ∈ g.vo) ↔ (∃ p ∈ s.ms, ∃ g, p.2.g = some g ∧ g.id = v.f ∧ ((v.b, v.d), v.a) ∈ g.vo)) : VsOk s' vs := ⟨h.nd, fun v => (h.mem v).trans (e v).symm⟩
theorem VsOk.comes {s : RS} {vs : List VI} (h : VsOk s vs) (d r : Int) : VsOk (s.comes d r) vs := by
 unfold RS.comes
 split
 ·refine h.of_ms fun v => ?_
  show (∃ p ∈ (if (s.memb (ofD d)).isSome = true then s.ms else s.ms ++ [(ofD d, ⟨r, none⟩)]), _) ↔ _
  split
  ·exact Iff.rfl
  ·constructor
   ·rintro ⟨p, hp, g, h1, h2⟩
    rcases List.mem_append.1 hp with hp | hp
    ·exact ⟨p, hp, g, h1, h2⟩
    ·rw [List.mem_singleton] at hp; subst hp; cases h1
   ·rintro ⟨p, hp, h1⟩
    exact ⟨p, List.mem_append.2 (.inl hp), h1⟩
 ·exact h
theorem whoI_on {s : RS} {i : Idn} : 0 ≤ whoI s i ↔ ∃ p ∈ s.ms, isId i p.2.g = true := by
 rcases whoI_cases s i with ⟨h1, h2⟩ | ⟨k, p, h1, h2, h3⟩
 ·rw [h1]
  exact ⟨fun h => by omega, fun ⟨p, hp, e⟩ => by rw [h2 p hp] at e; cases e⟩
 ·rw [h1]
  exact ⟨fun _ => ⟨p, List.mem_of_getElem? h2, h3⟩, fun _ => by omega⟩
/-- The vouches for guards that are still there. -/
def liveV (s : RS) (vs : List VI) : List VI := vs.filter fun v => decide (0 ≤ whoI s v.f)
theorem VsOk.live {s s' : RS} {vs : List VI} (h : VsOk s vs) (hA : ∀ p ∈ s'.ms, ∀ g, p.2.g = some g → g.vo ≠ [] → p ∈ s.ms) (hB : ∀ p ∈ s.ms, ∀ q ∈ s'.ms, ∀ g, p.2.g = some g → isId g.id q.2.g = true → p ∈ s'.ms) : VsOk s' (liveV s' vs) := by
 refine ⟨h.nd.sublist (List.Sublist.map _ List.filter_sublist), fun v => ?_⟩
 unfold liveV
 rw [List.mem_filter, decide_eq_true_eq, whoI_on, h.mem]
 constructor
 ·rintro ⟨⟨p, hp, g, h1, h2, h3⟩, q, hq, h4⟩
  rw [← h2] at h4
  exact ⟨p, hB p hp q hq g h1 h4, g, h1, h2, h3⟩
 ·rintro ⟨p, hp, g, h1, h2, h3⟩
  exact ⟨⟨p, hA p hp g h1 (List.ne_nil_of_mem h3), g, h1, h2, h3⟩, p, hp, by rw [h1]; exact decide_eq_true h2⟩
theorem ms_one {s : RS} (hn : (s.ms.map Prod.fst).Nodup) {p q : Int × Mb} (hp : p ∈ s.ms) (hq : q ∈ s.ms) (e : p.1 = q.1) : p = q := by
 have h1 := lk_of_mem (a := p.1) (b := p.2) hn hp
 have h2 := lk_of_mem (a := q.1) (b := q.2) hn hq
 rw [e, h2] at h1
 injection h1 with h1
 exact Prod.ext e h1.symm
theorem VsOk.goes {s : RS} {vs : List VI} {k : Nat} (h : VsOk s vs) (hs : s.Ok k) {d : Int} (hd : d ∈ s.ins) (he : ¬ ∃ e ∈ s.ins, e ≠ d ∧ ofD e = ofD d) : VsOk (s.goes d) (liveV (s.goes d) vs) := by
 have hsub : ∀ p ∈ (s.goes d).ms, p ∈ s.ms := fun p hp => by
  unfold RS.goes at hp
  rw [if_pos hd] at hp
  have : p ∈ (if ∃ e ∈ s.ins, e ≠ d ∧ ofD e = ofD d then s.ms else dropL s.ms (ofD d)) := hp
  rw [if_neg he] at this
  exact (mem_dropL.1 this).1
 refine h.live (fun p hp _ _ _ => hsub p hp) fun p hp q hq g h1 h2 => ?_
 have := hs.ids g.id p hp q (hsub q hq) (by rw [h1]; exact decide_eq_true rfl) h2
 rw [ms_one hs.mn hp (hsub q hq) this]
 exact hq
theorem mem_setM_of {s : RS} {n : Int} {m : Mb} {p : Int × Mb} (hp : p ∈ s.ms) (h : p.1 ≠ n) : p ∈ (s.setM n m).ms := List.mem_map.2 ⟨p, hp, if_neg h⟩
theorem mem_setM_at {s : RS} {n : Int} {m0 m : Mb} (hp : (n, m0) ∈ s.ms) : (n, m) ∈ (s.setM n m).ms := List.mem_map.2 ⟨(n, m0), hp, if_pos rfl⟩
theorem VsOk.guarded {s : RS} {vs : List VI} {k : Nat} (h : VsOk s vs) (hs : s.Ok k) {n r : Int} {g' : Gd} (hi : (k : Int) < g'.id.s) (hv : g'.vo = []) : VsOk (s.setM n ⟨r, some g'⟩) (liveV (s.setM n ⟨r, some g'⟩) vs) := by
 refine h.live (fun p hp g h1 h2 => ?_) fun p hp q hq g h1 h2 => ?_
 ·rcases mem_setM hp with rfl | ⟨hp, _⟩
  ·injection h1 with h1
   subst h1
   exact absurd hv h2
  ·exact hp
 ·rcases mem_setM hq with rfl | ⟨hq', hne⟩
  ·have e : g'.id = g.id := of_decide_eq_true h2
   have := (hs.gd p hp g h1).hi
   rw [e] at hi
   omega
  ·have := hs.ids g.id p hp q hq' (by rw [h1]; exact decide_eq_true rfl) h2
   rw [ms_one hs.mn hp hq' this]
   exact hq
/-- A member changed whose guard has the same name and the same vouches. -/
theorem VsOk.setM {s : RS} {vs : List VI} {k : Nat} (h : VsOk s vs) (hs : s.Ok k) {n r r' : Int} {go go' : Option Gd} (hm : s.memb n = some ⟨r, go⟩) (hg : ∀ (i : Idn) x, (∃ g, go' = some g ∧ g.id = i ∧ x ∈ g.vo) ↔ (∃ g, go = some g ∧ g.id = i ∧ x ∈ g.vo)) : VsOk (s.setM n ⟨r', go'⟩) vs := by
 have hm' : (n, (⟨r, go⟩ : Mb)) ∈ s.ms := lk_mem hm
 refine h.of_ms fun v => ?_
 constructor
 ·rintro ⟨p, hp, hx⟩
  rcases mem_setM hp with rfl | ⟨hp, _⟩
  ·exact ⟨_, hm', (hg v.f _).1 hx⟩
  ·exact ⟨p, hp, hx⟩
 ·rintro ⟨p, hp, hx⟩
  by_cases e : p.1 = n
  ·have : p = (n, ⟨r, go⟩) := ms_one hs.mn hp hm' e
   subst this
   exact ⟨_, mem_setM_at hm', (hg v.f _).2 hx⟩
  ·exact ⟨p, mem_setM_of hp e, hx⟩
theorem mem_lk {α β : Type} [DecidableEq α] {ks : List (α × β)} (hn : (ks.map Prod.fst).Nodup) {a : α} {b : β} : (a, b) ∈ ks ↔ lk ks a = some b := ⟨fun h => lk_of_mem hn h, lk_mem⟩
/-! A vouch. -/
def isV (o : OpI) (v : VI) : Bool := decide (v.f = o.f) && decide (v.b = o.b) && decide (v.d = o.d)
theorem isV_iff {o : OpI} {v : VI} : isV o v = true ↔ v.f = o.f ∧ v.b = o.b ∧ v.d = o.d := by
 unfold isV
 rw [Bool.and_eq_true, Bool.and_eq_true, decide_eq_true_eq, decide_eq_true_eq, decide_eq_true_eq, and_assoc]
def vouA (o : OpI) (vs : List VI) : Int := vs.foldl (fun a v => if isV o v = true then min a v.a else a) o.a
def vouL (o : OpI) (vs : List VI) : List VI := vs.filter fun v => !isV o v
def vouV (o : OpI) (vs : List VI) : List VI := vouL o vs ++ [⟨o.f, o.b, o.d, vouA o vs⟩]
theorem vouA_none (o : OpI) : ∀ (vs : List VI) (a : Int), (∀ v ∈ vs, isV o v = false) → vs.foldl (fun a v => if isV o v = true then min a v.a else a) a = a := by
 intro vs
 induction vs with
 | nil => intro a _; rfl
 | cons v vs ih =>
  intro a h
  rw [List.foldl_cons, if_neg (by rw [h v (List.mem_cons_self ..)]; simp)]
  exact ih a fun u hu => h u (List.mem_cons_of_mem _ hu)
theorem vouA_some (o : OpI) (t : Int) : ∀ (vs : List VI) (a : Int), (∀ v ∈ vs, isV o v = true → v.a = t) → (∃ v ∈ vs, isV o v = true) → vs.foldl (fun a v => if isV o v = true then min a v.a else a) a = min a t := by
 intro vs
 induction vs with
 | nil => rintro a _ ⟨v, hv, _⟩; cases hv
 | cons v vs ih =>
  intro a h hex
  rw [List.foldl_cons]
  have hall : ∀ u ∈ vs, isV o u = true → u.a = t := fun u hu => h u (List.mem_cons_of_mem _ hu)
  by_cases hv : isV o v = true
  ·rw [if_pos hv, h v (List.mem_cons_self ..) hv]
   by_cases hex2 : ∃ u ∈ vs, isV o u = true
   ·rw [ih _ hall hex2]; omega
   ·refine vouA_none o vs _ fun u hu => ?_
    cases e : isV o u with
    | false => rfl
    | true => exact absurd ⟨u, hu, e⟩ hex2
  ·rw [if_neg hv]
   refine ih a hall ?_
   obtain ⟨u, hu, e⟩ := hex
   rcases List.mem_cons.1 hu with rfl | hu
   ·exact absurd e hv
   ·exact ⟨u, hu, e⟩
theorem VsOk.vouch {s : RS} {vs : List VI} {k : Nat} (h : VsOk s vs) (hs : s.Ok k) {o : OpI} {n r : Int} {g : Gd} (hm : s.memb n = some ⟨r, some g⟩) (hid : g.id = o.f) : VsOk (s.setM n ⟨r, some (vouchG g o)⟩) (vouV o vs) := by
 have hm' : (n, (⟨r, some g⟩ : Mb)) ∈ s.ms := lk_mem hm
 have hgk := hs.gd _ hm' g rfl
 have hone : ∀ p ∈ s.ms, ∀ g2, p.2.g = some g2 → g2.id = o.f → p = (n, ⟨r, some g⟩) := fun p hp g2 h1 h2 =>
  ms_one hs.mn hp hm' (hs.ids o.f p hp _ hm' (by rw [h1]; exact decide_eq_true h2) (decide_eq_true hid))
 have hkey : ∀ v, v.f = o.f → (v ∈ vs ↔ ((v.b, v.d), v.a) ∈ g.vo) := fun v hv => by
  rw [h.mem]
  constructor
  ·rintro ⟨p, hp, g2, h1, h2, h3⟩
   have := hone p hp g2 h1 (h2.trans hv)
   subst this
   injection h1 with h1
   subst h1
   exact h3
  ·intro h3
   exact ⟨_, hm', g, rfl, hid.trans hv.symm, h3⟩
 have hvn : ((vouchG g o).vo.map Prod.fst).Nodup := by
  unfold vouchG
  split
  ·split
   ·exact nodup_putL hgk.vn _ _
   ·exact hgk.vn
  ·exact nodup_putL hgk.vn _ _
 have hA : vouA o vs = (match lk g.vo (o.b, o.d) with | some t => min o.a t | none => o.a) := by
  cases e : lk g.vo (o.b, o.d) with
  | none =>
   refine vouA_none o vs _ fun v hv => ?_
   cases e2 : isV o v with
   | false => rfl
   | true =>
    obtain ⟨h1, h2, h3⟩ := isV_iff.1 e2
    have h4 := (hkey v h1).1 hv
    rw [h2, h3] at h4
    have h5 := lk_of_mem hgk.vn h4
    rw [e] at h5
    cases h5
  | some t =>
   refine vouA_some o t vs _ (fun v hv e2 => ?_) ⟨⟨o.f, o.b, o.d, t⟩, (hkey _ rfl).2 (lk_mem e), isV_iff.2 ⟨rfl, rfl, rfl⟩⟩
   obtain ⟨h1, h2, h3⟩ := isV_iff.1 e2
   have h4 := (hkey v h1).1 hv
   rw [h2, h3] at h4
   have h5 := lk_of_mem hgk.vn h4
   rw [e] at h5
   injection h5 with h5
   exact h5.symm
 have hlk : ∀ q : Int × Int, lk (vouchG g o).vo q = if q = (o.b, o.d) then some (vouA o vs) else lk g.vo q := fun q => by
  rw [hA]
  unfold vouchG
  cases e : lk g.vo (o.b, o.d) with
  | none =>
   show lk (putL g.vo (o.b, o.d) o.a) q = _
   rw [lk_putL]
  | some t =>
   show lk (if o.a < t then (⟨g.id, g.gs, g.n, g.t, putL g.vo (o.b, o.d) o.a, g.ob, g.la⟩ : Gd) else g).vo q = if q = (o.b, o.d) then some (min o.a t) else lk g.vo q
   by_cases hlt : o.a < t
   ·rw [if_pos hlt]
    show lk (putL g.vo (o.b, o.d) o.a) q = _
    rw [lk_putL, show min o.a t = o.a by omega]
   ·rw [if_neg hlt, show min o.a t = t by omega]
    by_cases hq : q = (o.b, o.d)
    ·rw [if_pos hq, hq, e]
    ·rw [if_neg hq]
 have hmem : ∀ v : VI, v ∈ vouV o vs ↔ (v ∈ vs ∧ isV o v = false) ∨ v = ⟨o.f, o.b, o.d, vouA o vs⟩ := fun v => by
  unfold vouV vouL
  rw [List.mem_append, List.mem_filter, List.mem_singleton, Bool.not_eq_true']
 refine ⟨?_, fun v => ?_⟩
 ·unfold vouV vouL
  rw [List.map_append]
  refine List.nodup_append.2 ⟨h.nd.sublist (List.Sublist.map _ List.filter_sublist), by simp, fun a ha b hb e => ?_⟩
  obtain ⟨v, hv, rfl⟩ := List.mem_map.1 ha
  rw [List.map_singleton, List.mem_singleton] at hb
  rw [hb] at e
  injection e with e1 e2
  injection e2 with e2 e3
  have := (List.mem_filter.1 hv).2
  rw [Bool.not_eq_true', ← Bool.not_eq_true] at this
  exact this (isV_iff.2 ⟨e1, e2, e3⟩)
 ·rw [hmem]
  constructor
  ·rintro (⟨h1, h2⟩ | rfl)
   ·obtain ⟨p, hp, g2, k1, k2, k3⟩ := (h.mem v).1 h1
    by_cases e : p.1 = n
    ·have := ms_one hs.mn hp hm' e
     subst this
     injection k1 with k1
     subst k1
     refine ⟨_, mem_setM_at hm', vouchG g o, rfl, (vouchG_id g o).trans k2, (mem_lk hvn).2 ?_⟩
     rw [hlk, if_neg]
     ·exact lk_of_mem hgk.vn k3
     ·intro e2
      injection e2 with e2 e3
      have : isV o v = true := isV_iff.2 ⟨k2.symm.trans hid, e2, e3⟩
      rw [h2] at this
      cases this
    ·exact ⟨p, mem_setM_of hp e, g2, k1, k2, k3⟩
   ·refine ⟨_, mem_setM_at hm', vouchG g o, rfl, (vouchG_id g o).trans hid, (mem_lk hvn).2 ?_⟩
    rw [hlk, if_pos rfl]
  ·rintro ⟨p, hp, g2, k1, k2, k3⟩
   rcases mem_setM hp with rfl | ⟨hp, hne⟩
   ·injection k1 with k1
    subst k1
    rw [vouchG_id, hid] at k2
    have k4 := (mem_lk hvn).1 k3
    rw [hlk] at k4
    by_cases e : (v.b, v.d) = (o.b, o.d)
    ·rw [if_pos e] at k4
     injection k4 with k4
     injection e with e1 e2
     right
     cases v
     simp only at e1 e2 k2 k4
     subst e1; subst e2; subst k2; subst k4
     rfl
    ·rw [if_neg e] at k4
     refine .inl ⟨(hkey v k2.symm).2 (lk_mem k4), ?_⟩
     cases e2 : isV o v with
     | false => rfl
     | true =>
      obtain ⟨_, h2, h3⟩ := isV_iff.1 e2
      exact absurd (by rw [h2, h3]) e
   ·refine .inl ⟨(h.mem v).2 ⟨p, hp, g2, k1, k2, k3⟩, ?_⟩
    cases e2 : isV o v with
    | false => rfl
    | true =>
     obtain ⟨h1, _, _⟩ := isV_iff.1 e2
     exact absurd (by rw [hone p hp g2 k1 (k2.trans h1)]) hne
/-! Devices that go, in whatever row. -/
def goL (s : RS) (l : List Int) : RS := l.foldl (fun s d => s.goes d) s
theorem goL_snoc (s : RS) (l : List Int) (d : Int) : goL s (l ++ [d]) = (goL s l).goes d := by
 unfold goL
 rw [List.foldl_append]; rfl
theorem goAll_eq (m : Int) : ∀ (l : List Int) (s : RS), s.goAll m l = goL s (l.filter fun d => decide (ofD d = m)) := by
 intro l
 induction l with
 | nil => intro s; rfl
 | cons d l ih =>
  intro s
  show RS.goAll (if ofD d = m then s.goes d else s) m l = _
  rw [ih]
  by_cases h : ofD d = m
  ·rw [if_pos h, List.filter_cons_of_pos (by simpa using h)]; rfl
  ·rw [if_neg h, List.filter_cons_of_neg (by simpa using h)]
theorem goL_eq (m : Int) : ∀ (l : List Int) (s : RS), l.Nodup → (∀ d ∈ l, d ∈ s.ins ∧ ofD d = m) →
  goL s l = ⟨s.ins.filter (fun e => decide (e ∉ l)), s.gone ++ l, if l = [] ∨ ∃ e ∈ s.ins, e ∉ l ∧ ofD e = m then s.ms else dropL s.ms m, s.bk⟩ := by
 intro l
 induction l with
 | nil =>
  intro s _ _
  rw [if_pos (.inl rfl), List.append_nil, List.filter_eq_self.2 (fun e _ => by simp)]
  rfl
 | cons d l ih =>
  intro s hn hl
  obtain ⟨hd1, hd2⟩ := hl d (List.mem_cons_self ..)
  obtain ⟨hn1, hn2⟩ := List.nodup_cons.1 hn
  have hg : s.goes d = ⟨s.ins.filter (fun e => decide (e ≠ d)), s.gone ++ [d], if ∃ e ∈ s.ins, e ≠ d ∧ ofD e = m then s.ms else dropL s.ms m, s.bk⟩ := by
   unfold RS.goes
   rw [if_pos hd1, hd2]
  show goL (s.goes d) l = _
  rw [hg, ih _ hn2 fun e he => by
   obtain ⟨k1, k2⟩ := hl e (List.mem_cons_of_mem _ he)
   exact ⟨List.mem_filter.2 ⟨k1, decide_eq_true fun e2 => hn1 (e2 ▸ he)⟩, k2⟩]
  congr 1
  ·show List.filter _ (s.ins.filter fun e => decide (e ≠ d)) = _
   rw [List.filter_filter]
   refine List.filter_congr fun e _ => ?_
   rw [← Bool.decide_and]
   refine decide_eq_decide.2 ?_
   rw [List.mem_cons]
   constructor
   ·rintro ⟨h1, h2⟩ (h3 | h3)
    ·exact h2 h3
    ·exact h1 h3
   ·intro h1
    exact ⟨fun h2 => h1 (.inr h2), fun h2 => h1 (.inl h2)⟩
  ·show s.gone ++ [d] ++ l = _
   rw [List.append_assoc]; rfl
  ·show (if l = [] ∨ ∃ e ∈ s.ins.filter (fun e => decide (e ≠ d)), e ∉ l ∧ ofD e = m then (if ∃ e ∈ s.ins, e ≠ d ∧ ofD e = m then s.ms else dropL s.ms m) else dropL (if ∃ e ∈ s.ins, e ≠ d ∧ ofD e = m then s.ms else dropL s.ms m) m) = _
   cases l with
   | nil =>
    rw [if_pos (.inl rfl)]
    refine ite_congr (propext ?_) (fun _ => rfl) (fun _ => rfl)
    constructor
    ·rintro ⟨e, h1, h2, h3⟩
     exact .inr ⟨e, h1, by simpa using h2, h3⟩
    ·rintro (h | ⟨e, h1, h2, h3⟩)
     ·cases h
     ·exact ⟨e, h1, by simpa using h2, h3⟩
   | cons c l =>
    have hc := hl c (by simp)
    have hcd : c ≠ d := fun e => hn1 (by rw [e]; exact List.mem_cons_self ..)
    have hx : ∃ e ∈ s.ins, e ≠ d ∧ ofD e = m := ⟨c, hc.1, hcd, hc.2⟩
    rw [if_pos hx]
    refine ite_congr (propext ?_) (fun _ => rfl) (fun _ => rfl)
    constructor
    ·rintro (h | ⟨e, h1, h2, h3⟩)
     ·cases h
     ·obtain ⟨k1, k2⟩ := List.mem_filter.1 h1
      refine .inr ⟨e, k1, fun h4 => ?_, h3⟩
      rcases List.mem_cons.1 h4 with h4 | h4
      ·exact of_decide_eq_true k2 h4
      ·exact h2 h4
    ·rintro (h | ⟨e, h1, h2, h3⟩)
     ·cases h
     ·exact .inr ⟨e, List.mem_filter.2 ⟨h1, decide_eq_true fun h4 => h2 (by rw [h4]; exact List.mem_cons_self ..)⟩, fun h4 => h2 (List.mem_cons_of_mem _ h4), h3⟩
/-- All devices of a member go: in whatever row. -/
theorem goAll_row {s : RS} {k : Nat} (hs : s.Ok k) (m : Int) : (goL s (s.ins.filter fun d => decide (ofD d = m))).ins = (s.goAll m (sortI s.ins)).ins ∧ (goL s (s.ins.filter fun d => decide (ofD d = m))).gone.Perm (s.goAll m (sortI s.ins)).gone ∧ (goL s (s.ins.filter fun d => decide (ofD d = m))).ms = (s.goAll m (sortI s.ins)).ms ∧ (goL s (s.ins.filter fun d => decide (ofD d = m))).bk = (s.goAll m (sortI s.ins)).bk := by
 have hni : s.ins.Nodup := (List.nodup_append.1 hs.nd).1
 have hp : ((sortI s.ins).filter fun d => decide (ofD d = m)).Perm (s.ins.filter fun d => decide (ofD d = m)) := (sortI_perm s.ins).filter _
 rw [goAll_eq, goL_eq m _ s (hni.filter _) (fun d hd => by obtain ⟨h1, h2⟩ := List.mem_filter.1 hd; exact ⟨h1, of_decide_eq_true h2⟩), goL_eq m _ s (hp.nodup_iff.2 (hni.filter _)) (fun d hd => by obtain ⟨h1, h2⟩ := List.mem_filter.1 hd; exact ⟨(sortI_perm s.ins).mem_iff.1 h1, of_decide_eq_true h2⟩)]
 obtain ⟨l1, e1⟩ : ∃ l, (s.ins.filter fun d => decide (ofD d = m)) = l := ⟨_, rfl⟩
 obtain ⟨l2, e2⟩ : ∃ l, ((sortI s.ins).filter fun d => decide (ofD d = m)) = l := ⟨_, rfl⟩
 rw [e1, e2] at hp ⊢
 refine ⟨?_, hp.symm.append_left _, ?_, rfl⟩
 ·show s.ins.filter _ = s.ins.filter _
  exact List.filter_congr fun e _ => decide_eq_decide.2 (not_congr hp.symm.mem_iff)
 ·show (if _ then _ else _) = (if _ then _ else _)
  refine ite_congr (propext ?_) (fun _ => rfl) (fun _ => rfl)
  have h1 : l1 = [] ↔ l2 = [] := by
   constructor
   ·intro h; subst h; exact hp.eq_nil
   ·intro h; subst h; exact hp.symm.eq_nil
  have h2 : (∃ e ∈ s.ins, e ∉ l1 ∧ ofD e = m) ↔ (∃ e ∈ s.ins, e ∉ l2 ∧ ofD e = m) := exists_congr fun e => and_congr_right fun _ => and_congr_left fun _ => not_congr hp.symm.mem_iff
  rw [h1, h2]
theorem goL_ok {k : Nat} : ∀ (l : List Int) (s : RS), s.Ok k → (goL s l).Ok k := by
 intro l
 induction l with
 | nil => intro s h; exact h
 | cons d l ih => intro s h; exact ih _ (goes_ok h d)
/-- Another row of those that went. -/
theorem RfAt.row {w : Go.World} {a : RfV} {s s' : RS} {L : List ME} {vs : List VI} (h : RfAt w a s L vs) (h1 : s.ins = s'.ins) (h2 : s.gone.Perm s'.gone) (h3 : s.ms = s'.ms) : RfAt w a s' L vs := by
 obtain ⟨gl, g1, g2⟩ := h.gone
 exact ⟨h.cards, h1 ▸ h.ins, ⟨gl, g1.trans h2, by rw [← h2.length_eq]; exact g2⟩, h.lm, h.lq.trans h3, h.gs, h.vv, h.nz, h.lt⟩
theorem VsOk.row {s s' : RS} {vs : List VI} (h : VsOk s vs) (h3 : s.ms = s'.ms) : VsOk s' vs := ⟨h.nd, by rw [← h3]; exact h.mem⟩
theorem rfC_row (a : RfV) {s s' : RS} (h1 : s.ins = s'.ins) (h2 : s.gone.Perm s'.gone) (h3 : s.ms = s'.ms) (h4 : s.bk = s'.bk) (n : Nat) : rfC a s n = rfC a s' n := by
 unfold rfC
 rw [h1, h2.length_eq, h3, h4]
end Go.Proofs.YtkolilbebkkpdaaDoor

namespace Go.Proofs.YtkolilbebkkpdaaDoor
open Go.RowKit Go.Maps Go.BigFrame

def rZ : Array Value := #[.slice none 0 0, .slice none 0 0, .slice none 0 0, .slice none 0 0, .int .i64 0, .slice none 0 0]
theorem zero_R (w : World) : (zeroValue 60).run Tryd.prog w = .ok (.agg rZ) w := by kernel_rfl
theorem rfC_one (a : RfV) (s : RS) (n : Nat) : (rfC a s n).all (·.oneCell') = true := by simp [rfC, Value.oneCell']
theorem rfC_info (a : RfV) (s : RS) (n : Nat) : (Tryd.prog.info? 60).map (·.size) = some (rfC a s n).size := by
 show _ = some 6
 kernel_rfl
theorem zero_M (w : World) : (zeroValue 108).run Tryd.prog w = .ok (.agg (mC ((0, ⟨0, none⟩), none, 0))) w := by kernel_rfl
theorem mC_one (x : ME) : (mC x).all (·.oneCell') = true := by simp [mC, Value.oneCell']
theorem mC_info (x : ME) : (Tryd.prog.info? 108).map (·.size) = some (mC x).size := by
 show _ = some 11
 kernel_rfl
theorem vC_one (x : VI) : (vC x).all (·.oneCell') = true := by simp [vC, Value.oneCell']
theorem vC_info (x : VI) : (Tryd.prog.info? 128).map (·.size) = some (vC x).size := by
 show _ = some 6
 kernel_rfl
theorem zero_V (w : World) : (zeroValue 128).run Tryd.prog w = .ok (.agg (vC ⟨⟨0, 0, 0⟩, 0, 0, 0⟩)) w := by kernel_rfl
section
variable {ops : Array Oper} {rest : List Oper} {o : Oper} {a : Act} {Q : Exit → Act → World → Prop} {w : World}
theorem run_allocT {t : TypeId} {z : Array Value} (w : World) (hz : (zeroValue t).run Tryd.prog w = .ok (.agg z) w) : (Instr.alloc t true (.tuple #[])).run Tryd.prog w = .ok (.pointer (some ⟨w.heap.size, 0, none⟩)) (w.alloc (.cells z t)) := by
 unfold Instr.alloc
 rw [Sem.run_bind, hz]
 rfl
theorem wpL_allocT (t : TypeId) (z : Array Value) (hg : o.guard = none) (hop : o.op = .alloc t) (hz : (zeroValue t).run Tryd.prog w = .ok (.agg z) w) (h : wpList Tryd.prog ops Q rest (a.put o.dst (.pointer (some ⟨w.heap.size, 0, none⟩))) (w.alloc (.cells z t))) : wpList Tryd.prog ops Q (o :: rest) a w :=
 wpList_plain hg fun K hK => by
  unfold Oper.wp
  have e : (execOp a.eval o).run Tryd.prog w = .ok (.value (.pointer (some ⟨w.heap.size, 0, none⟩))) (w.alloc (.cells z t)) := by
   unfold execOp
   simp only [hop, Sem.run_bind, run_allocT w hz, Result.andThen_ok, Sem.run_pure]
  rw [e]
  exact hK _ _ h
theorem wpL_storeT (t : TypeId) (z cs : Array Value) (hg : o.guard = none) (x y : Operand) (hop : o.op = .store t x y) (hx : a.eval x = .pointer (some ⟨w.heap.size, 0, none⟩)) (hy : a.eval y = .agg cs)
  (hi : (Tryd.prog.info? t).map (·.size) = some cs.size) (hs : z.size = cs.size) (h1 : cs.all (·.oneCell') = true)
  (h : wpList Tryd.prog ops Q rest (a.put o.dst undef) (w.alloc (.cells cs t))) : wpList Tryd.prog ops Q (o :: rest) a (w.alloc (.cells z t)) :=
 wpList_plain hg fun K hK => by
  unfold Oper.wp
  have e : (execOp a.eval o).run Tryd.prog (w.alloc (.cells z t)) = .ok .skip (w.alloc (.cells cs t)) := by
   unfold execOp
   have := run_storeVar_new (P := Tryd.prog) w t z cs hi hs h1
   simp only [hop, hx, hy, Instr.storeAt, Instr.sureAddr, Sem.run_bind, Sem.run_pure, Result.andThen_ok, this]
  rw [e]
  exact hK _ _ h
/-- A member of a list, loaded whole. -/
theorem wpL_loadM (hgd : o.guard = none) (x : Operand) (ho : o.op = .load 108 x) (b k : Nat) (hx : a.eval x = .pointer (some ⟨b, k, none⟩))
  (m : ME) (hc : ∀ j u, (mC m)[j]? = some u → w.cell? ⟨b, k + j, none⟩ = some u) (h : wpList Tryd.prog ops Q rest (a.put o.dst (.agg (mC m))) w) : wpList Tryd.prog ops Q (o :: rest) a w :=
 wpList_load_mid hgd 108 x ho b k hx (mC m).toList _ (fun j u hu => hc j u (by simpa using hu)) Tryd.underlying108 rfl (by rw [mC_info m]; rfl) (by simpa using h)
theorem wpL_loadV (hgd : o.guard = none) (x : Operand) (ho : o.op = .load 128 x) (b k : Nat) (hx : a.eval x = .pointer (some ⟨b, k, none⟩))
  (m : VI) (hc : ∀ j u, (vC m)[j]? = some u → w.cell? ⟨b, k + j, none⟩ = some u) (h : wpList Tryd.prog ops Q rest (a.put o.dst (.agg (vC m))) w) : wpList Tryd.prog ops Q (o :: rest) a w :=
 wpList_load_mid hgd 128 x ho b k hx (vC m).toList _ (fun j u hu => hc j u (by simpa using hu)) Tryd.underlying128 rfl (by rw [vC_info m]; rfl) (by simpa using h)
end
/-- A member in a variable. -/
def MBox (w : World) (b : Nat) (x : ME) : Prop := w.heap[b]? = some (.cells (mC x) 108 (0, 0))
theorem MBox.made (w : World) (x : ME) : MBox (w.alloc (.cells (mC x) 108)) w.heap.size x := World.alloc_heap_new w _
theorem MBox.below {w w' : World} {b : Nat} {x : ME} (h : MBox w b x) (hb : Below w.heap.size w w') : MBox w' b x := (hb.block b (blk_lt h)).trans h
theorem MBox.cell {w : World} {b : Nat} {x : ME} (h : MBox w b x) (i : Nat) : w.cell? ⟨b, i, none⟩ = (mC x)[i]? := by simp [World.cell?, show w.heap[b]? = _ from h]
/-- A vouch of the document's roll. -/
theorem RfAt.vat {w : World} {a : RfV} {s : RS} {L : List ME} {vs : List VI} (h : RfAt w a s L vs) {k : Nat} (hk : k < vs.length) : ∃ (b off : Nat), a.pv = some ⟨b, off, none⟩ ∧ b < w.heap.size ∧ ∀ j u, (vC vs[k])[j]? = some u → w.cell? ⟨b, off + k * 6 + j, none⟩ = some u := by
 obtain ⟨b, off, hp, hb, hc⟩ := h.vv k hk
 exact ⟨b, off, hp, hb, fun j u hu => hc j u (by show (vC vs[k]).toList[j]? = some u; simpa using hu)⟩
/-! Plain: the vouches of a guard. -/
def atsV (i : Idn) (d : Int) (vs : List VI) : List Int := (vs.filter fun v => decide (v.f = i) && decide (v.d = d)).map VI.a
theorem atsV_snoc (i : Idn) (d : Int) (vs : List VI) (v : VI) : atsV i d (vs ++ [v]) = if v.f = i ∧ v.d = d then atsV i d vs ++ [v.a] else atsV i d vs := by
 unfold atsV
 rw [List.filter_append, List.map_append]
 by_cases h : v.f = i ∧ v.d = d
 ·rw [if_pos h]
  simp [h.1, h.2]
 ·rw [if_neg h]
  have : (decide (v.f = i) && decide (v.d = d)) = false := by
   rw [← Bool.decide_and]
   exact decide_eq_false h
  simp [this]
theorem VsOk.key {s : RS} {vs : List VI} {k : Nat} (h : VsOk s vs) (hs : s.Ok k) {n r : Int} {g : Gd} (hm : s.memb n = some ⟨r, some g⟩) {v : VI} (hv : v.f = g.id) : v ∈ vs ↔ ((v.b, v.d), v.a) ∈ g.vo := by
 have hm' : (n, (⟨r, some g⟩ : Mb)) ∈ s.ms := lk_mem hm
 rw [h.mem]
 constructor
 ·rintro ⟨p, hp, g2, h1, h2, h3⟩
  have hone : p = (n, ⟨r, some g⟩) := ms_one hs.mn hp hm' (hs.ids g.id p hp _ hm' (by rw [h1]; exact decide_eq_true (h2.trans hv)) (decide_eq_true rfl))
  subst hone
  injection h1 with h1
  subst h1
  exact h3
 ·intro h3
  exact ⟨_, hm', g, rfl, hv.symm, h3⟩
theorem atsV_perm {s : RS} {vs : List VI} {k : Nat} (h : VsOk s vs) (hs : s.Ok k) {n r : Int} {g : Gd} (hm : s.memb n = some ⟨r, some g⟩) (d : Int) : (atsV g.id d vs).Perm (g.ats d) := by
 have hgk := hs.gd _ (lk_mem hm) g rfl
 have hA : ((vs.filter fun v => decide (v.f = g.id) && decide (v.d = d)).map fun v => ((v.b, v.d), v.a)).Perm (g.vo.filter fun v => decide (v.1.2 = d)) := by
  refine (List.perm_ext_iff_of_nodup ?_ ?_).2 fun x => ?_
  ·have h1 : List.Pairwise (fun u v : VI => (u.f, u.b, u.d) ≠ (v.f, v.b, v.d)) vs := List.pairwise_map.1 h.nd
   have h2 := h1.filter fun v => decide (v.f = g.id) && decide (v.d = d)
   refine List.pairwise_map.2 (h2.imp_of_mem fun {u v} hu hv hne e => hne ?_)
   have hu' := (List.mem_filter.1 hu).2
   have hv' := (List.mem_filter.1 hv).2
   rw [Bool.and_eq_true, decide_eq_true_eq, decide_eq_true_eq] at hu' hv'
   injection e with e1 e2
   injection e1 with e1 e3
   rw [hu'.1, hv'.1, e1, e3]
  ·have h1 : List.Pairwise (fun u v : (Int × Int) × Int => u.1 ≠ v.1) g.vo := List.pairwise_map.1 hgk.vn
   exact (h1.imp fun hne e => hne (by rw [e])).filter _
  ·obtain ⟨⟨b, d'⟩, t⟩ := x
   rw [List.mem_map, List.mem_filter, decide_eq_true_eq]
   constructor
   ·rintro ⟨v, hv, e⟩
    obtain ⟨h1, h2⟩ := List.mem_filter.1 hv
    rw [Bool.and_eq_true, decide_eq_true_eq, decide_eq_true_eq] at h2
    have h3 := (h.key hs hm h2.1).1 h1
    injection e with e1 e2
    injection e1 with e1 e3
    rw [e1, e3, e2] at h3
    exact ⟨h3, e3 ▸ h2.2⟩
   ·rintro ⟨h1, h2⟩
    refine ⟨⟨g.id, b, d', t⟩, List.mem_filter.2 ⟨(h.key hs hm rfl).2 h1, ?_⟩, rfl⟩
    rw [Bool.and_eq_true, decide_eq_true_eq, decide_eq_true_eq]
    exact ⟨rfl, h2⟩
 have h2 := hA.map Prod.snd
 rw [List.map_map] at h2
 exact h2
theorem VsOk.bd {s : RS} {vs : List VI} {k : Nat} (h : VsOk s vs) (hs : s.Ok k) {v : VI} (hv : v ∈ vs) : (0 ≤ v.b ∧ v.b ≤ 1000000) ∧ (0 ≤ v.d ∧ v.d ≤ 1000000) ∧ 0 ≤ v.a ∧ v.a ≤ 1000000 := by
 obtain ⟨p, hp, g, h1, _, h3⟩ := (h.mem v).1 hv
 exact (hs.gd p hp g h1).vb _ h3
theorem flat_le {α β : Type} (f : α → List β) (c : Nat) : ∀ l : List α, (∀ x ∈ l, (f x).length ≤ c) → (l.flatMap f).length ≤ l.length * c := by
 intro l
 induction l with
 | nil => intro _; simp
 | cons a l ih =>
  intro h
  have h1 := h a (List.mem_cons_self ..)
  have h2 := ih fun x hx => h x (List.mem_cons_of_mem _ hx)
  rw [List.flatMap_cons, List.length_append, List.length_cons, Nat.succ_mul]
  omega
theorem VsOk.few {s : RS} {vs : List VI} {k : Nat} (h : VsOk s vs) (hs : s.Ok k) : vs.length ≤ 4 * k := by
 have h1 : (vs.map fun v => (v.f, v.b, v.d)).length ≤ (s.ms.flatMap fun p => match p.2.g with | some g => g.vo.map fun x => (g.id, x.1.1, x.1.2) | none => []).length := by
  refine nodup_leG _ _ h.nd fun x hx => ?_
  obtain ⟨v, hv, rfl⟩ := List.mem_map.1 hx
  obtain ⟨p, hp, g, h1, h2, h3⟩ := (h.mem v).1 hv
  refine List.mem_flatMap.2 ⟨p, hp, ?_⟩
  rw [h1]
  exact List.mem_map.2 ⟨_, h3, by rw [h2]⟩
 rw [List.length_map] at h1
 have h2 := flat_le (fun p : Int × Mb => match p.2.g with | some g => g.vo.map fun x => (g.id, x.1.1, x.1.2) | none => ([] : List (Idn × Int × Int))) k s.ms fun p hp => by
  cases e : p.2.g with
  | none => exact Nat.zero_le _
  | some g =>
   show (g.vo.map _).length ≤ k
   rw [List.length_map]
   exact (hs.gd p hp g e).vl
 have h3 := hs.fewM
 have h4 : s.ms.length * k ≤ 4 * k := Nat.mul_le_mul_right _ h3
 omega
/-- The boxed roll loaded whole, in a region. -/
theorem run_loadR {W : World} {b : Nat} {a : RfV} {s : RS} {nv : Nat} {ρ : Operand → Value} {o : Oper} {x : Operand} (h : RfBox W b a s nv) (hop : o.op = .load 60 x) (hx : ρ x = .pointer (some ⟨b, 0, none⟩)) : (execOp ρ o).run Tryd.prog W = .ok (.value (.agg (rfC a s nv))) W := by
 have := run_loadVar_row (P := Tryd.prog) W b _ 60 (rfC a s nv) _ _ h Tryd.underlying60 rfl (rfC_info _ _ _)
 unfold execOp
 simp only [hop, hx, Instr.loadAt, Instr.sureAddr, Sem.run_bind, Sem.run_pure, Result.andThen_ok, this]
end Go.Proofs.YtkolilbebkkpdaaDoor

namespace Go.Proofs.YtkolilbebkkpdaaDoor
open Go.RowKit Go.Maps Go.BigFrame
attribute [local go_sem] in_gr

set_option maxRecDepth 100000 in
set_option maxHeartbeats 8000000 in
theorem DueR_any (w : World) (a : RfV) (s : RS) (L : List ME) (vs : List VI) (n d : Int) (kk : Nat) (hR : RfAt w a s L vs) (hV : VsOk s vs) (hs : s.Ok kk) (hkk : kk ≤ 1000) :
  Calls Tryd.prog 64 #[.agg (rfC a s vs.length), .int .i64 n, .int .i64 d] w fun e w' => e = .returned (.tuple #[.int .i64 (s.due n d).1, .int .i64 (s.due n d).2]) ∧ Below w.heap.size w w' := by
 have hbx := Below.lit w (.cells (rfC a s vs.length) 60)
 have hRb := hR.below hbx
 have hBx := RfBox.made w a s vs.length
 obtain ⟨wb, hwb, hBx⟩ := nameW (p := fun W => RfBox W w.heap.size a s vs.length) hBx
 rw [hwb.out] at hbx hRb
 obtain ⟨bx, hbxn⟩ : ∃ bx, Hid (w.heap.size = bx) := ⟨_, Lib.hid rfl⟩
 rw [hbxn.out] at hBx
 obtain ⟨r1, hr1⟩ : ∃ r, Hid ((s.due n d).1 = r) := ⟨_, Lib.hid rfl⟩
 obtain ⟨r2, hr2⟩ : ∃ r, Hid ((s.due n d).2 = r) := ⟨_, Lib.hid rfl⟩
 rw [hr1.out, hr2.out]
 go_enter Tryd.func64, Tryd.ntmps64
 go_upto_region 1 with (first | (rw [hwb.out]) | fail)
 rw [hbxn.out]
 go_wp2_with (first
  | (refine wpList_load_row rfl 60 _ rfl bx rfl 60 (rfC a s vs.length) (0, 0) _ hBx Tryd.underlying60 rfl (by kernel_rfl) ?_)
  | fail)
 refine (MemR_any wb a s L vs n hRb (by have := hs.fewM; omega)).mono ?_
 rintro e w1 ⟨rfl, hb1⟩
 have hB1 := hBx.below hb1
 have hR1 := hRb.below hb1
 have hB := hbx.trans (hb1.mono hbx.size)
 rcases memI_cases s n with ⟨h1, h2⟩ | ⟨k, m, h1, h2, h3⟩
 ·have e1 : Hid (r1 = 0) := Lib.hid (by rw [← hr1.out]; unfold RS.due; rw [h2]; rfl)
  have e2 : Hid (r2 = 4) := Lib.hid (by rw [← hr2.out]; unfold RS.due; rw [h2]; rfl)
  rw [h1]
  replace h2 := Lib.hid h2
  go_wp2_with fail
  go_ret2
  rw [e1.out, e2.out]
  exact ⟨rfl, hB⟩
 ·rw [h1]
  obtain ⟨hk, h2e⟩ := List.getElem?_eq_some_iff.1 h2
  obtain ⟨b, off, x, hxL, hxs, hp, hbl, _, hc⟩ := hR1.at_ hk
  obtain ⟨xm, xp, xc⟩ := x
  obtain rfl : xm = (n, m) := hxs.trans h2e
  obtain ⟨mr, go⟩ := m
  have hix1 : (0 : Int) ≤ (k : Int) := by omega
  have hix2 : (k : Int) < (s.ms.length : Int) := by omega
  have t2 : decide ((k : Int) < 0) = false := decide_eq_false (by omega)
  have k3 := hB1.c3
  rw [hp] at k3
  have hbm := Below.lit w1 (.cells (mC ((n, ⟨mr, go⟩), xp, xc)) 108)
  obtain ⟨w2, hw2, hM2⟩ := nameW (p := fun W => MBox W w1.heap.size ((n, ⟨mr, go⟩), xp, xc)) (MBox.made w1 _)
  rw [hw2.out] at hbm
  obtain ⟨bm, hbmn⟩ : ∃ bm, Hid (w1.heap.size = bm) := ⟨_, Lib.hid rfl⟩
  rw [hbmn.out] at hM2
  have hB2 := hB1.below hbm
  have hR2 := hR1.below hbm
  have hBB := hB.trans (hbm.mono hB.size)
  replace h2 := Lib.hid h2
  replace h2e := Lib.hid h2e
  replace hc := Lib.hid hc
  replace hxs := Lib.hid hxs
  replace h1 := Lib.hid h1
  go_upto_region 5 with (first
   | (rw [hw2.out])
   | (refine wpL_loadM rfl _ rfl b (off + k * 11) rfl ((n, ⟨mr, go⟩), xp, xc) hc.out ?_)
   | (refine wpL_allocT 108 _ rfl rfl (zero_M _) ?_; simp only [Act.put, List.setIfInBounds_toArray, List.set_cons_succ, List.set_cons_zero])
   | (refine wpL_storeT 108 _ (mC ((n, ⟨mr, go⟩), xp, xc)) rfl _ _ rfl (by first | rfl | (simp only [World.size_alloc]; rfl)) rfl (mC_info _) rfl (mC_one _) ?_; try simp only [Act.put])
   | fail)
  rw [hbmn.out]
  cases go with
  | none =>
   have q2 : w2.cell? ⟨bm, 2, none⟩ = some (.bool false) := by rw [hM2.cell]; rfl
   have e1 : Hid (r1 = 0) := Lib.hid (by rw [← hr1.out]; unfold RS.due; rw [h3]; rfl)
   have e2 : Hid (r2 = 4) := Lib.hid (by rw [← hr2.out]; unfold RS.due; rw [h3]; rfl)
   replace h3 := Lib.hid h3
   go_wp2_with fail
   go_ret2
   rw [e1.out, e2.out]
   exact ⟨rfl, hBB⟩
  | some g =>
   have hgk := hs.gd _ (lk_mem h3) g rfl
   have hdue : Hid (s.due n d = dueL g (sortI (g.ats d))) := Lib.hid (by unfold RS.due; rw [h3]; rfl)
   have hper := atsV_perm hV hs h3 d
   have hvf := hV.few hs
   have hvb : Hid (∀ v ∈ vs, 0 ≤ v.a ∧ v.a ≤ 1000000) := Lib.hid fun v hv => (hV.bd hs hv).2.2
   have q2 : w2.cell? ⟨bm, 2, none⟩ = some (.bool true) := by rw [hM2.cell]; rfl
   replace h3 := Lib.hid h3
   replace hgk := Lib.hid hgk
   replace hper := Lib.hid hper
   have hz0 : Hid (w.heap.size ≤ w2.heap.size) := Lib.hid hBB.size
   go_wp2_with fail
   go_loopw [10, 11] (fun v i wr => ∃ (j : Nat), j ≤ vs.length ∧ i = .int .i64 j ∧ OwnI wr w2.heap.size v (atsV g.id d (vs.take j)).length (atsV g.id d (vs.take j)) ∧ Below w2.heap.size w2 wr) (fun _ i _ => vs.length - (intOf i).toNat)
   case atStart => exact ⟨0, Nat.zero_le _, rfl, OwnI.nil _ _, Below.refl _ _⟩
   case round =>
    obtain ⟨j, hj, rfl, hown, hbr⟩ := hrel
    have k5 := (hB2.below hbr).c5
    obtain ⟨q, cq, rfl, hqc, hQ, hqf⟩ := hown.u
    have hlen9 : (atsV g.id d (vs.take j)).length ≤ 4000 := by
     unfold atsV
     rw [List.length_map]
     refine Nat.le_trans (List.length_filter_le ..) ?_
     rw [List.length_take]; omega
    by_cases hlt : j < vs.length
    ·obtain ⟨bv, ov, hpv, _, hcv⟩ := (hR2.below hbr).vat hlt
     obtain ⟨v, hv⟩ : ∃ v, Hid (vs[j] = v) := ⟨_, Lib.hid rfl⟩
     have hva := hvb.out vs[j] (List.getElem_mem hlt)
     have hsn : atsV g.id d (vs.take (j + 1)) = if v.f = g.id ∧ v.d = d then atsV g.id d (vs.take j) ++ [v.a] else atsV g.id d (vs.take j) := by
      rw [List.take_add_one, List.getElem?_eq_getElem hlt]
      show atsV g.id d (vs.take j ++ [vs[j]]) = _
      rw [atsV_snoc, hv.out]
     rw [hv.out] at hcv hva
     have c0 : wr.cell? ⟨bv, ov + j * 6, none⟩ = some (.int .i64 v.f.b) := hcv 0 _ rfl
     have c1 : wr.cell? ⟨bv, ov + j * 6 + 1, none⟩ = some (.int .i64 v.f.s) := hcv 1 _ rfl
     have c2 : wr.cell? ⟨bv, ov + j * 6 + 2, none⟩ = some (.int .u64 v.f.u) := hcv 2 _ rfl
     have c4 : wr.cell? ⟨bv, ov + j * 6 + 4, none⟩ = some (.int .i64 v.d) := hcv 4 _ rfl
     have c5 : wr.cell? ⟨bv, ov + j * 6 + 5, none⟩ = some (.int .i64 v.a) := hcv 5 _ rfl
     have hMr := hM2.below hbr
     have i0 : wr.cell? ⟨bm, 3, none⟩ = some (.int .i64 g.id.b) := by rw [hMr.cell]; rfl
     have i1 : wr.cell? ⟨bm, 3 + 1, none⟩ = some (.int .i64 g.id.s) := by rw [hMr.cell]; rfl
     have i2 : wr.cell? ⟨bm, 3 + 2, none⟩ = some (.int .u64 g.id.u) := by rw [hMr.cell]; rfl
     have hix3 : (0 : Int) ≤ (j : Int) := by omega
     have hix4 : (j : Int) < (vs.length : Int) := by omega
     have hid := fun T => id_eql v.f g.id T
     obtain ⟨xb, hxb⟩ : ∃ xb, Hid (decide (v.f = g.id) = xb) := ⟨_, Lib.hid rfl⟩
     rw [hxb.out] at hid
     rw [hpv] at k5
     replace hcv := Lib.hid hcv
     replace hva := Lib.hid hva
     replace hsn := Lib.hid hsn
     replace hown := Lib.hid hown
     replace hQ := Lib.hid hQ
     replace hqf := Lib.hid hqf
     obtain ⟨ys, hys⟩ : ∃ ys, Hid (atsV g.id d (vs.take j) = ys) := ⟨_, Lib.hid rfl⟩
     rw [hys.out] at hown hsn hlen9 ⊢
     go_upto_region 11 with fail
     obtain ⟨wd, hwd⟩ : ∃ wd, Hid (wr.drew = wd) := ⟨_, Lib.hid rfl⟩
     have hw0 : Below wr.heap.size wr wd := by rw [← hwd.out]; exact (Below.refl _ _).drew
     have hbd := hbr.trans (hw0.mono hbr.size)
     replace k5 := (hw0.cell (cell_lt k5)).trans k5
     replace i0 := (hw0.cell (cell_lt i0)).trans i0
     replace i1 := (hw0.cell (cell_lt i1)).trans i1
     replace i2 := (hw0.cell (cell_lt i2)).trans i2
     replace c0 := (hw0.cell (cell_lt c0)).trans c0
     replace c1 := (hw0.cell (cell_lt c1)).trans c1
     replace c2 := (hw0.cell (cell_lt c2)).trans c2
     replace c4 := (hw0.cell (cell_lt c4)).trans c4
     replace c5 := (hw0.cell (cell_lt c5)).trans c5
     have hownd := hown.out.below hw0
     replace hownd := Lib.hid hownd
     have hb0 : Below wd.heap.size wd wd := Below.refl _ _
     refine wp_region_D (D := fun T => Below wd.heap.size wd T) (by kernel_rfl) ?_
     rw [hwd.out]
     change wpAnyD _ _ _ _ _ 19 _ _ _
     apply tkD 0 hb0 rfl
     ·intro T hT
      have hT0 := (hT.cell (cell_lt k5)).trans k5
      go_simp
      try rfl
     try go_frame
     apply tkD 1 hb0 rfl
     ·intro T hT
      have hT0 := (hT.cell (cell_lt k5)).trans k5
      go_simp
      try rfl
     try go_frame
     apply tkD 2 hb0 rfl
     ·intro T hT
      have hT0 := (hT.cell (cell_lt k5)).trans k5
      go_simp
      try rfl
     try go_frame
     apply tkD 3 hb0 rfl
     ·intro T hT
      have hT0 := (hT.cell (cell_lt k5)).trans k5
      go_simp
      try rfl
     try go_frame
     apply tkD 4 hb0 rfl
     ·intro T hT
      have hT0 := (hT.cell (cell_lt k5)).trans k5
      go_simp
      try rfl
     try go_frame
     apply tkD 5 hb0 rfl
     ·intro T hT
      have hT0 := (hT.cell (cell_lt c0)).trans c0
      have hT1 := (hT.cell (cell_lt c1)).trans c1
      have hT2 := (hT.cell (cell_lt c2)).trans c2
      go_simp
      try rfl
     try go_frame
     apply tkD 6 hb0 rfl
     ·intro T hT
      go_simp
      try rfl
     try go_frame
     apply tkD 7 hb0 rfl
     ·intro T hT
      have hT0 := (hT.cell (cell_lt i0)).trans i0
      have hT1 := (hT.cell (cell_lt i1)).trans i1
      have hT2 := (hT.cell (cell_lt i2)).trans i2
      go_simp
      try rfl
     try go_frame
     apply tkD 8 hb0 rfl
     ·intro T hT
      go_simp
      try rfl
     try go_frame
     apply tkD 9 hb0 rfl
     ·intro T hT
      go_simp
      try rfl
     try go_frame
     cases xb with
     | false =>
      have hsn2 : Hid (atsV g.id d (vs.take (j + 1)) = ys) := Lib.hid (by rw [hsn.out, if_neg]; exact fun h => of_decide_eq_false hxb.out h.1)
      apply noD 10 hb0 rfl
      try go_frame
      apply noD 11 hb0 rfl
      try go_frame
      apply noD 12 hb0 rfl
      try go_frame
      apply noD 13 hb0 rfl
      try go_frame
      apply noD 14 hb0 rfl
      try go_frame
      apply noD 15 hb0 rfl
      try go_frame
      apply noD 16 hb0 rfl
      try go_frame
      apply noD 17 hb0 rfl
      try go_frame
      apply tkD 18 hb0 rfl
      ·intro T hT
       go_simp
       try rfl
      try go_frame
      refine wpAnyD_done (by kernel_rfl) ?_ _
      go_wp2_with fail
      go_roundw
      case rel => exact ⟨j + 1, by omega, by go_num, by rw [hsn2.out]; exact hownd.out, hbd⟩
      case measure => simp [intOf]; omega
     | true =>
      apply tkD 10 hb0 rfl
      ·intro T hT
       have hT0 := (hT.cell (cell_lt k5)).trans k5
       go_simp
       try rfl
      try go_frame
      apply tkD 11 hb0 rfl
      ·intro T hT
       have hT0 := (hT.cell (cell_lt k5)).trans k5
       go_simp
       try rfl
      try go_frame
      apply tkD 12 hb0 rfl
      ·intro T hT
       have hT0 := (hT.cell (cell_lt k5)).trans k5
       go_simp
       try rfl
      try go_frame
      apply tkD 13 hb0 rfl
      ·intro T hT
       have hT0 := (hT.cell (cell_lt k5)).trans k5
       go_simp
       try rfl
      try go_frame
      apply tkD 14 hb0 rfl
      ·intro T hT
       have hT0 := (hT.cell (cell_lt k5)).trans k5
       go_simp
       try rfl
      try go_frame
      apply tkD 15 hb0 rfl
      ·intro T hT
       have hT0 := (hT.cell (cell_lt c4)).trans c4
       go_simp
       try rfl
      try go_frame
      apply tkD 16 hb0 rfl
      ·intro T hT
       go_simp
       try rfl
      try go_frame
      by_cases hde : v.d = d
      ·have t3 : (v.d == d) = true := beq_iff_eq.2 hde
       have hsn2 : Hid (atsV g.id d (vs.take (j + 1)) = ys ++ [v.a]) := Lib.hid (by rw [hsn.out, if_pos]; exact ⟨of_decide_eq_true hxb.out, hde⟩)
       replace hde := Lib.hid hde
       apply tkD 17 hb0 rfl
       ·intro T hT
        go_simp
        try rfl
       try go_frame
       apply tkD 18 hb0 rfl
       ·intro T hT
        go_simp
        try rfl
       try go_frame
       refine wpAnyD_done (by kernel_rfl) ?_ _
       have hva' := hva.out
       have hownd' := hownd.out
       have hzd : w2.heap.size ≤ wd.heap.size := hbd.size
       go_wp2_with (first
        | (at_builtin; refine app_i rfl _ _ rfl hownd' rfl (by rfl) ⟨by omega, by omega⟩ (by omega) hzd ?_; intro v' w4 hown4 hb4)
        | fail)
       go_roundw
       case rel => exact ⟨j + 1, by omega, by go_num, by rw [hsn2.out, List.length_append]; exact hown4, hbd.trans hb4⟩
       case measure => simp [intOf]; omega
      ·have t3 : (v.d == d) = false := beq_eq_false_iff_ne.2 hde
       have hsn2 : Hid (atsV g.id d (vs.take (j + 1)) = ys) := Lib.hid (by rw [hsn.out, if_neg]; exact fun h => hde h.2)
       replace hde := Lib.hid hde
       apply tkD 17 hb0 rfl
       ·intro T hT
        go_simp
        try rfl
       try go_frame
       apply tkD 18 hb0 rfl
       ·intro T hT
        go_simp
        try rfl
       try go_frame
       refine wpAnyD_done (by kernel_rfl) ?_ _
       go_wp2_with fail
       go_roundw
       case rel => exact ⟨j + 1, by omega, by go_num, by rw [hsn2.out]; exact hownd.out, hbd⟩
       case measure => simp [intOf]; omega
    ·have hjn : vs.take j = vs := List.take_of_length_le (by omega)
     rw [hjn] at hown hQ hlen9 hqc ⊢
     have hso : Hid (sortI (atsV g.id d vs) = sortI (g.ats d)) := Lib.hid (sortI_congr hper.out)
     obtain ⟨xs, hxs'⟩ : ∃ xs, Hid (atsV g.id d vs = xs) := ⟨_, Lib.hid rfl⟩
     have hxl : xs.length ≤ 1000 := by
      have h1 := hper.out.length_eq
      have h2 : (g.ats d).length ≤ g.vo.length := by unfold Gd.ats; rw [List.length_map]; exact List.length_filter_le ..
      have := hgk.out.vl
      rw [hxs'.out] at h1
      omega
     rw [hxs'.out] at hown hQ hso hqc ⊢
     obtain ⟨n', hn'⟩ : ∃ n', Hid (xs.length = n') := ⟨_, Lib.hid rfl⟩
     rw [hn'.out] at hown hQ hxl hqc ⊢
     replace hjn := Lib.hid hjn
     go_wp2_with fail
     refine (Sorted_ref q n' xs cq wr hQ hxl).mono ?_
     rintro e w3 ⟨v3, rfl, hown3, hb3⟩
     rw [hso.out] at hown3
     obtain ⟨p3, c3, rfl, hnc, hU, _⟩ := hown3.u
     have hb23 := hbr.trans (hb3.mono hbr.size)
     have hM3 := hM2.below hb23
     have hBE := hBB.trans (hb23.mono hBB.size)
     obtain ⟨ys, hys⟩ : ∃ ys, Hid (sortI (g.ats d) = ys) := ⟨_, Lib.hid rfl⟩
     rw [hys.out] at hown3 hdue hU
     have hyb : Hid (∀ t ∈ ys, 0 ≤ t ∧ t ≤ 1000000) := Lib.hid (by
      intro t ht
      rw [← hys.out, (sortI_perm _).mem_iff] at ht
      unfold Gd.ats at ht
      obtain ⟨v, hv, rfl⟩ := List.mem_map.1 ht
      exact (hgk.out.vb v (List.mem_filter.1 hv).1).2.2)
     have hyl : Hid (ys.length = n') := Lib.hid hown3.len
     have g2' : w3.cell? ⟨bm, 7, none⟩ = some (.int .i64 g.n) := by rw [hM3.cell]; rfl
     have g3' : w3.cell? ⟨bm, 8, none⟩ = some (.int .i64 g.t) := by rw [hM3.cell]; rfl
     have g5' : w3.cell? ⟨bm, 9, none⟩ = some (.bool g.ob) := by rw [hM3.cell]; rfl
     have g6' : w3.cell? ⟨bm, 10, none⟩ = some (.int .i64 g.la) := by rw [hM3.cell]; rfl
     obtain ⟨hdn0, hdn1⟩ := hgk.out.hn
     obtain ⟨hdt0, hdt1⟩ := hgk.out.ht
     obtain ⟨k', hk'⟩ : ∃ k' : Nat, Hid (g.n = (k' : Int) + 1) := ⟨(g.n - 1).toNat, Lib.hid (by omega)⟩
     have hkn : (g.n - 1).toNat = k' := by have := hk'.out; omega
     have hkn2 : g.n.toNat - 1 = k' := by have := hk'.out; omega
     clear hown hown3
     by_cases hA : (n' : Int) < g.n
     ·have e : s.due n d = (0, 26) := by rw [hdue.out, dueL_few (by rw [hyl.out]; exact hA)]
      have e1 : Hid (r1 = 0) := Lib.hid (by rw [← hr1.out, e])
      have e2 : Hid (r2 = 26) := Lib.hid (by rw [← hr2.out, e])
      clear e
      go_wp2_with fail
      go_ret2
      rw [e1.out, e2.out]
      exact ⟨rfl, hBE⟩
     ·have hA2 : Hid (¬ (ys.length : Int) < g.n) := Lib.hid (by rw [hyl.out]; exact hA)
      have hkl : k' < n' := by have := hk'.out; omega
      obtain ⟨b3, off3, rfl, _, hc0, hc1, hc2⟩ := hU.look (i := 0) (by omega)
      obtain ⟨b', off', hbe, _, hck, hck1, hck2⟩ := hU.look (i := k') hkl
      injection hbe with hbe
      injection hbe with hbe1 hbe2
      subst hbe1; subst hbe2
      have hix0 : (0 : Int) < (n' : Int) := by omega
      have hc0' : w3.cell? ⟨b3, off3, none⟩ = some (.int .i64 (nth ys 0)) := hc0
      have hixk : g.n - 1 < (n' : Int) := by omega
      have hixj : 0 ≤ g.n - 1 := by omega
      have hykb : 0 ≤ nth ys k' ∧ nth ys k' ≤ 1000000 := hyb.out _ (nth_mem (by rw [hyl.out]; exact hkl))
      obtain ⟨hyk0, hyk1⟩ := hykb
      cases hob : g.ob with
      | true =>
       rw [hob] at g5'
       replace hob := Lib.hid hob
       by_cases hla : nth ys 0 ≤ g.la
       ·have e : s.due n d = (0, 28) := by rw [hdue.out, dueL_obj hA2.out hob.out hla]
        have e1 : Hid (r1 = 0) := Lib.hid (by rw [← hr1.out, e])
        have e2 : Hid (r2 = 28) := Lib.hid (by rw [← hr2.out, e])
        clear e
        go_wp2_with fail
        go_quiet (fail)
        go_wp2_with fail
        go_ret2
        rw [e1.out, e2.out]
        exact ⟨rfl, belowN hBE _⟩
       ·have e : s.due n d = (nth ys k' + g.t, 0) := by rw [hdue.out, dueL_at hA2.out (fun h => hla h.2) hk'.out]
        have e1 : Hid (r1 = nth ys k' + g.t) := Lib.hid (by rw [← hr1.out, e])
        have e2 : Hid (r2 = 0) := Lib.hid (by rw [← hr2.out, e])
        clear e
        go_wp2_with fail
        go_quiet (fail)
        go_wp2_with fail
        go_quiet (fail)
        go_wp2_with fail
        go_ret2
        rw [e1.out, e2.out]
        exact ⟨rfl, belowN (belowN hBE _) _⟩
      | false =>
       rw [hob] at g5'
       replace hob := Lib.hid hob
       have e : s.due n d = (nth ys k' + g.t, 0) := by rw [hdue.out, dueL_at hA2.out (fun h => by rw [hob.out] at h; cases h.1) hk'.out]
       have e1 : Hid (r1 = nth ys k' + g.t) := Lib.hid (by rw [← hr1.out, e])
       have e2 : Hid (r2 = 0) := Lib.hid (by rw [← hr2.out, e])
       clear e
       go_wp2_with fail
       go_quiet (fail)
       go_wp2_with fail
       go_quiet (fail)
       go_wp2_with fail
       go_ret2
       rw [e1.out, e2.out]
       exact ⟨rfl, belowN (belowN hBE _) _⟩
end Go.Proofs.YtkolilbebkkpdaaDoor

namespace Go.Proofs.YtkolilbebkkpdaaDoor
open Go.RowKit Go.Maps Go.BigFrame
attribute [local go_sem] in_gr

/-- A guarded load of the boxed roll. -/
theorem wpL_loadRG {ops : Array Oper} {rest : List Oper} {o : Oper} {ac : Act} {w : World} {Q : Exit → Act → World → Prop} {a : RfV} {s : RS} {nv : Nat} (x : Operand) (ho : o.op = .load 60 x) (b : Nat) (hx : ac.eval x = .pointer (some ⟨b, 0, none⟩)) (hb : RfBox w b a s nv)
  (hw : Region.wanted o (yielded ops ac.tmps) = true) (h : wpList Tryd.prog ops Q rest (ac.put o.dst (.agg (rfC a s nv))) w) : wpList Tryd.prog ops Q (o :: rest) ac w := by
 refine wpList_unguard hw ?_
 exact wpList_load_row rfl 60 x ho b hx 60 (rfC a s nv) (0, 0) _ hb Tryd.underlying60 rfl (rfC_info _ _ _) h
set_option maxRecDepth 100000 in
set_option maxHeartbeats 8000000 in
theorem recV_any (w : World) (a : RfV) (s : RS) (L : List ME) (vs : List VI) (o : OpI) (gp : Option Addr) (gc : Nat) (kk : Nat) (hR : RfAt w a s L vs) (_hV : VsOk s vs) (hs : s.Ok kk) (_hkk : kk ≤ 1000) (hk : o.k = 11) :
  Calls Tryd.prog 51 #[.agg (rfC a s vs.length), .agg (opC o gp gc)] w fun e w' => e = .returned (.int .i64 (s.askVouch o 0)) ∧ Below w.heap.size w w' := by
 have hbx := Below.lit w (.cells (rfC a s vs.length) 60)
 have hRb := hR.below hbx
 have hBx := RfBox.made w a s vs.length
 obtain ⟨wb, hwb, hBx⟩ := nameW (p := fun W => RfBox W w.heap.size a s vs.length) hBx
 rw [hwb.out] at hbx hRb
 obtain ⟨bx, hbxn⟩ : ∃ bx, Hid (w.heap.size = bx) := ⟨_, Lib.hid rfl⟩
 rw [hbxn.out] at hBx
 have hbo := Below.lit wb (.cells (opC o gp gc) 42)
 have hOo := OpAt.made wb o gp gc
 obtain ⟨wo, hwo, hOo⟩ := nameW (p := fun W => OpAt W wb.heap.size o gp gc) hOo
 rw [hwo.out] at hbo
 obtain ⟨bo, hbon⟩ : ∃ bo, Hid (wb.heap.size = bo) := ⟨_, Lib.hid rfl⟩
 rw [hbon.out] at hOo
 have hC : RCtx wo bx bo a s L vs o gp gc := ⟨hRb.below hbo, hBx.below hbo, hOo⟩
 have hB := hbx.trans (hbo.mono hbx.size)
 clear hRb hBx hOo hbo hbx
 obtain ⟨r, hr⟩ : ∃ r, Hid (s.askVouch o 0 = r) := ⟨_, Lib.hid rfl⟩
 rw [hr.out]
 have hfw := hs.few
 rw [List.length_append] at hfw
 have hfm := hs.fewM
 go_enter Tryd.func51, Tryd.ntmps51
 go_upto_region 1 with (first | (rw [hwb.out]) | (rw [hwo.out]) | fail)
 rw [hbxn.out, hbon.out]
 go_wp2_with (first
  | (refine wpList_load_row rfl 60 _ rfl bx rfl 60 (rfC a s vs.length) (0, 0) _ hC.box Tryd.underlying60 rfl (by kernel_rfl) ?_)
  | (refine wpList_load_row rfl 42 _ rfl bo rfl 42 (opC o gp gc) (0, 0) _ hC.op Tryd.underlying42 rfl (by kernel_rfl) ?_)
  | fail)
 refine (guR_any _ a s L vs o gp gc kk hC.rf hs).mono ?_
 rintro e w1_ ⟨rfl, hb_⟩
 replace hC := hC.below hb_
 replace hB := hB.trans (hb_.mono hB.size)
 clear hb_
 have zk := hC.op.ck
 rw [hk] at zk
 have zd := hC.op.cd
 obtain ⟨g1, hg1⟩ : ∃ x, Hid ((guI s o).1 = x) := ⟨_, Lib.hid rfl⟩
 obtain ⟨g2, hg2⟩ : ∃ x, Hid ((guI s o).2 = x) := ⟨_, Lib.hid rfl⟩
 rw [hg1.out, hg2.out]
 rcases guI_cases hs o with ⟨h1, h2, h3⟩ | ⟨k, n, rl, g, h1, h2, _, _, _, h3, h4⟩
 ·skip
  obtain rfl : g1 = -1 := by rw [← hg1.out, h2]
  obtain rfl : g2 = 25 := by rw [← hg2.out, h2]
  have hq : Hid (r = 25) := Lib.hid (by rw [← hr.out]; unfold RS.askVouch; rw [h3]; rfl)
  replace h2 := Lib.hid h2
  replace h3 := Lib.hid h3
  go_wp2_with fail
  go_ret
  exact ⟨ret_int hq.out.symm, hB⟩
 ·skip
  by_cases hob : o.b ∈ g.gs
  ·skip
   rw [if_pos hob] at h3 h4
   obtain rfl : g1 = (k : Int) := by rw [← hg1.out, h3]
   obtain rfl : g2 = 0 := by rw [← hg2.out, h3]
   obtain ⟨hk', h2e⟩ := List.getElem?_eq_some_iff.1 h2
   obtain ⟨b, off, x, hxL, hxs, hp, _, _, hc⟩ := hC.rf.at_ hk'
   have c0 : w1_.cell? ⟨b, off + k * 11, none⟩ = some (.int .i64 x.1.1) := hc 0 _ rfl
   rw [show x.1.1 = n by rw [hxs, h2e]] at c0
   have hix1 : (0 : Int) ≤ (k : Int) := by omega
   have hix2 : (k : Int) < (s.ms.length : Int) := by omega
   have k3 := hC.box.c3
   rw [hp] at k3
   replace hxs := Lib.hid hxs
   replace hc := Lib.hid hc
   replace h2 := Lib.hid h2
   replace h2e := Lib.hid h2e
   replace h3 := Lib.hid h3
   replace h4 := Lib.hid h4
   obtain ⟨od, hod⟩ : ∃ od, Hid (ofD o.d = od) := ⟨_, Lib.hid rfl⟩
   obtain ⟨xf, hxf⟩ : ∃ xf, Hid (s.fresh o.d = xf) := ⟨_, Lib.hid rfl⟩
   go_upto_region 5 with fail
   go_wp2_with (first
    | (refine wpL_loadRG _ rfl bx rfl hC.box (by kernel_rfl) ?_)
    | fail)
   refine (OfR_any _ a.pc a.cc _ _ _ _ _ o.d hC.rf.cards).mono ?_
   rintro e w2_ ⟨rfl, hb_⟩
   replace hC := hC.below hb_
   replace hB := hB.trans (hb_.mono hB.size)
   clear hb_
   have zk := hC.op.ck
   rw [hk] at zk
   have zd := hC.op.cd
   rw [hod.out]
   by_cases hne : od = n
   ·skip
    have t5 : (od != n) = false := by rw [hne]; exact bne_self_eq_false _
    replace hne := Lib.hid hne
    go_upto_region 9 with fail
    go_wp2_with (first
     | (refine wpList_load_row rfl 60 _ rfl bx rfl 60 (rfC a s vs.length) (0, 0) _ hC.box Tryd.underlying60 rfl (by kernel_rfl) ?_)
     | fail)
    refine (freshR_any _ a s L vs o.d hC.rf (by rw [List.length_append]; omega)).mono ?_
    rintro e w3_ ⟨rfl, hb_⟩
    replace hC := hC.below hb_
    replace hB := hB.trans (hb_.mono hB.size)
    clear hb_
    have zk := hC.op.ck
    rw [hk] at zk
    have zd := hC.op.cd
    rw [hxf.out]
    cases xf with
    | false =>
     have hq : Hid (r = 17) := Lib.hid (by rw [← hr.out]; unfold RS.askVouch; rw [h4.out, if_neg (by simp), if_neg (by rw [hod.out]; exact fun h => h hne.out), if_pos hxf.out])
     go_wp2_with fail
     go_ret
     exact ⟨ret_int hq.out.symm, hB⟩
    | true =>
     have hq : Hid (r = 0) := Lib.hid (by rw [← hr.out]; unfold RS.askVouch; rw [h4.out, if_neg (by simp), if_neg (by rw [hod.out]; exact fun h => h hne.out), if_neg (by rw [hxf.out]; simp)])
     go_wp2_with fail
     go_ret
     exact ⟨ret_int hq.out.symm, hB⟩
   ·have t5 : (od != n) = true := bne_iff_ne.2 hne
    replace hne := Lib.hid hne
    have hq : Hid (r = 16) := Lib.hid (by rw [← hr.out]; unfold RS.askVouch; rw [h4.out, if_neg (by simp), if_pos (by rw [hod.out]; exact hne.out)])
    go_wp2_with fail
    go_ret
    exact ⟨ret_int hq.out.symm, hB⟩
  ·skip
   rw [if_neg hob] at h3 h4
   obtain rfl : g1 = -1 := by rw [← hg1.out, h3]
   obtain rfl : g2 = 14 := by rw [← hg2.out, h3]
   have hq : Hid (r = 14) := Lib.hid (by rw [← hr.out]; unfold RS.askVouch; rw [h4]; rfl)
   replace h2 := Lib.hid h2
   replace h3 := Lib.hid h3
   replace h4 := Lib.hid h4
   go_wp2_with fail
   go_ret
   exact ⟨ret_int hq.out.symm, hB⟩
set_option maxRecDepth 100000 in
set_option maxHeartbeats 8000000 in
theorem recP_any (w : World) (a : RfV) (s : RS) (L : List ME) (vs : List VI) (o : OpI) (gp : Option Addr) (gc : Nat) (kk : Nat) (hR : RfAt w a s L vs) (hV : VsOk s vs) (hs : s.Ok kk) (hkk : kk ≤ 1000) (hk : o.k = 13) :
  Calls Tryd.prog 51 #[.agg (rfC a s vs.length), .agg (opC o gp gc)] w fun e w' => e = .returned (.int .i64 (s.askReplace o 0)) ∧ Below w.heap.size w w' := by
 have hbx := Below.lit w (.cells (rfC a s vs.length) 60)
 have hRb := hR.below hbx
 have hBx := RfBox.made w a s vs.length
 obtain ⟨wb, hwb, hBx⟩ := nameW (p := fun W => RfBox W w.heap.size a s vs.length) hBx
 rw [hwb.out] at hbx hRb
 obtain ⟨bx, hbxn⟩ : ∃ bx, Hid (w.heap.size = bx) := ⟨_, Lib.hid rfl⟩
 rw [hbxn.out] at hBx
 have hbo := Below.lit wb (.cells (opC o gp gc) 42)
 have hOo := OpAt.made wb o gp gc
 obtain ⟨wo, hwo, hOo⟩ := nameW (p := fun W => OpAt W wb.heap.size o gp gc) hOo
 rw [hwo.out] at hbo
 obtain ⟨bo, hbon⟩ : ∃ bo, Hid (wb.heap.size = bo) := ⟨_, Lib.hid rfl⟩
 rw [hbon.out] at hOo
 have hC : RCtx wo bx bo a s L vs o gp gc := ⟨hRb.below hbo, hBx.below hbo, hOo⟩
 have hB := hbx.trans (hbo.mono hbx.size)
 clear hRb hBx hOo hbo hbx
 obtain ⟨r, hr⟩ : ∃ r, Hid (s.askReplace o 0 = r) := ⟨_, Lib.hid rfl⟩
 rw [hr.out]
 have hfw := hs.few
 rw [List.length_append] at hfw
 have hfm := hs.fewM
 go_enter Tryd.func51, Tryd.ntmps51
 go_upto_region 1 with (first | (rw [hwb.out]) | (rw [hwo.out]) | fail)
 rw [hbxn.out, hbon.out]
 go_wp2_with (first
  | (refine wpList_load_row rfl 60 _ rfl bx rfl 60 (rfC a s vs.length) (0, 0) _ hC.box Tryd.underlying60 rfl (by kernel_rfl) ?_)
  | (refine wpList_load_row rfl 42 _ rfl bo rfl 42 (opC o gp gc) (0, 0) _ hC.op Tryd.underlying42 rfl (by kernel_rfl) ?_)
  | fail)
 refine (guR_any _ a s L vs o gp gc kk hC.rf hs).mono ?_
 rintro e w1_ ⟨rfl, hb_⟩
 replace hC := hC.below hb_
 replace hB := hB.trans (hb_.mono hB.size)
 clear hb_
 have zk := hC.op.ck
 rw [hk] at zk
 have zd := hC.op.cd
 have zo := hC.op.co
 have z1 := hC.box.c1
 have za := hC.op.ca
 obtain ⟨g1, hg1⟩ : ∃ x, Hid ((guI s o).1 = x) := ⟨_, Lib.hid rfl⟩
 obtain ⟨g2, hg2⟩ : ∃ x, Hid ((guI s o).2 = x) := ⟨_, Lib.hid rfl⟩
 rw [hg1.out, hg2.out]
 rcases guI_cases hs o with ⟨h1, h2, h3⟩ | ⟨k, n, rl, g, h1, h2, _, _, _, h3, h4⟩
 ·skip
  obtain rfl : g1 = -1 := by rw [← hg1.out, h2]
  obtain rfl : g2 = 25 := by rw [← hg2.out, h2]
  have hq : Hid (r = 25) := Lib.hid (by rw [← hr.out]; unfold RS.askReplace; rw [h3]; rfl)
  replace h2 := Lib.hid h2
  replace h3 := Lib.hid h3
  go_wp2_with fail
  go_ret
  exact ⟨ret_int hq.out.symm, hB⟩
 ·skip
  by_cases hob : o.b ∈ g.gs
  ·skip
   rw [if_pos hob] at h3 h4
   obtain rfl : g1 = (k : Int) := by rw [← hg1.out, h3]
   obtain rfl : g2 = 0 := by rw [← hg2.out, h3]
   obtain ⟨hk', h2e⟩ := List.getElem?_eq_some_iff.1 h2
   obtain ⟨b, off, x, hxL, hxs, hp, _, _, hc⟩ := hC.rf.at_ hk'
   have c0 : w1_.cell? ⟨b, off + k * 11, none⟩ = some (.int .i64 x.1.1) := hc 0 _ rfl
   rw [show x.1.1 = n by rw [hxs, h2e]] at c0
   have hix1 : (0 : Int) ≤ (k : Int) := by omega
   have hix2 : (k : Int) < (s.ms.length : Int) := by omega
   have k3 := hC.box.c3
   rw [hp] at k3
   replace hxs := Lib.hid hxs
   replace hc := Lib.hid hc
   replace h2 := Lib.hid h2
   replace h2e := Lib.hid h2e
   replace h3 := Lib.hid h3
   replace h4 := Lib.hid h4
   obtain ⟨od, hod⟩ : ∃ od, Hid (ofD o.d = od) := ⟨_, Lib.hid rfl⟩
   obtain ⟨xf, hxf⟩ : ∃ xf, Hid (s.fresh o.d = xf) := ⟨_, Lib.hid rfl⟩
   obtain ⟨xi, hxi⟩ : ∃ xi, Hid (decide (o.o ∈ s.ins) = xi) := ⟨_, Lib.hid rfl⟩
   have hxi2 : Hid (s.inB o.o = xi) := Lib.hid hxi.out
   obtain ⟨oo, hoo⟩ : ∃ oo, Hid (ofD o.o = oo) := ⟨_, Lib.hid rfl⟩
   go_wp2_with fail
   refine (HasL_any a.pi s.ins.length s.ins a.ci o.o _ hC.rf.ins (by omega)).mono ?_
   rintro e _ ⟨rfl, rfl⟩
   rw [hxi.out]
   cases xi with
   | false =>
    have hq : Hid (r = 17) := Lib.hid (by rw [← hr.out]; unfold RS.askReplace; rw [h4.out, if_neg (by simp), if_pos (.inl hxi2.out)])
    go_wp2_with fail
    go_ret
    exact ⟨ret_int hq.out.symm, hB⟩
   | true =>
    go_wp2_with (first
     | (refine wpL_loadRG _ rfl bx rfl hC.box (by kernel_rfl) ?_)
     | fail)
    refine (OfR_any _ a.pc a.cc _ _ _ _ _ o.o hC.rf.cards).mono ?_
    rintro e w3_ ⟨rfl, hb_⟩
    replace hC := hC.below hb_
    replace hB := hB.trans (hb_.mono hB.size)
    clear hb_
    have zk := hC.op.ck
    rw [hk] at zk
    have zd := hC.op.cd
    have zo := hC.op.co
    have z1 := hC.box.c1
    have za := hC.op.ca
    rw [hoo.out]
    by_cases hne : oo = n
    ·skip
     have t5 : (oo != n) = false := by rw [hne]; exact bne_self_eq_false _
     replace hne := Lib.hid hne
     go_wp2_with (first
      | (refine wpL_loadRG _ rfl bx rfl hC.box (by kernel_rfl) ?_)
      | fail)
     refine (OfR_any _ a.pc a.cc _ _ _ _ _ o.d hC.rf.cards).mono ?_
     rintro e w4_ ⟨rfl, hb_⟩
     replace hC := hC.below hb_
     replace hB := hB.trans (hb_.mono hB.size)
     clear hb_
     have zk := hC.op.ck
     rw [hk] at zk
     have zd := hC.op.cd
     have zo := hC.op.co
     have z1 := hC.box.c1
     have za := hC.op.ca
     rw [hod.out]
     by_cases hde : od = n
     ·skip
      have t6 : (od != n) = false := by rw [hde]; exact bne_self_eq_false _
      replace hde := Lib.hid hde
      go_upto_region 9 with fail
      go_wp2_with (first
       | (refine wpList_load_row rfl 60 _ rfl bx rfl 60 (rfC a s vs.length) (0, 0) _ hC.box Tryd.underlying60 rfl (by kernel_rfl) ?_)
       | fail)
      refine (freshR_any _ a s L vs o.d hC.rf (by rw [List.length_append]; omega)).mono ?_
      rintro e w5_ ⟨rfl, hb_⟩
      replace hC := hC.below hb_
      replace hB := hB.trans (hb_.mono hB.size)
      clear hb_
      have zk := hC.op.ck
      rw [hk] at zk
      have zd := hC.op.cd
      have zo := hC.op.co
      have z1 := hC.box.c1
      have za := hC.op.ca
      rw [hxf.out]
      cases xf with
      | false =>
       have hq : Hid (r = 17) := Lib.hid (by rw [← hr.out]; unfold RS.askReplace; rw [h4.out, if_neg (by simp), if_pos (.inr (.inr (.inl hxf.out)))])
       go_wp2_with fail
       go_ret
       exact ⟨ret_int hq.out.symm, hB⟩
      | true =>
       have hok : ¬ (s.inB o.o = false ∨ ofD o.o ≠ n ∨ s.fresh o.d = false ∨ ofD o.d ≠ n) := by
        rw [hxi2.out, hxf.out, hoo.out, hod.out, hne.out, hde.out]
        rintro (h | h | h | h)
        ·cases h
        ·exact h rfl
        ·cases h
        ·exact h rfl
       have hdu : Hid (r = if (s.due n o.d).2 = 0 ∧ o.a < (s.due n o.d).1 then 27 else (s.due n o.d).2) := Lib.hid (by rw [← hr.out]; unfold RS.askReplace; rw [h4.out, if_neg (by simp), if_neg hok])
       clear hok
       go_upto_region 14 with fail
       go_wp2_with (first
        | (refine wpList_load_row rfl 60 _ rfl bx rfl 60 (rfC a s vs.length) (0, 0) _ hC.box Tryd.underlying60 rfl (by kernel_rfl) ?_)
        | fail)
       refine (DueR_any _ a s L vs n o.d kk hC.rf hV hs hkk).mono ?_
       rintro e w6_ ⟨rfl, hb_⟩
       replace hC := hC.below hb_
       replace hB := hB.trans (hb_.mono hB.size)
       clear hb_
       have zk := hC.op.ck
       rw [hk] at zk
       have zd := hC.op.cd
       have zo := hC.op.co
       have z1 := hC.box.c1
       have za := hC.op.ca
       obtain ⟨d1, hd1⟩ : ∃ d, Hid ((s.due n o.d).1 = d) := ⟨_, Lib.hid rfl⟩
       obtain ⟨d2, hd2⟩ : ∃ d, Hid ((s.due n o.d).2 = d) := ⟨_, Lib.hid rfl⟩
       rw [hd1.out, hd2.out] at hdu
       rw [hd1.out, hd2.out]
       by_cases he : d2 = 0
       ·skip
        subst he
        by_cases hla : o.a < d1
        ·have t7 : decide (o.a < d1) = true := decide_eq_true hla
         have hq : Hid (r = 27) := Lib.hid (by rw [hdu.out, if_pos ⟨rfl, hla⟩])
         replace hla := Lib.hid hla
         go_wp2_with fail
         go_ret
         exact ⟨ret_int hq.out.symm, hB⟩
        ·have t7 : decide (o.a < d1) = false := decide_eq_false hla
         have hq : Hid (r = 0) := Lib.hid (by rw [hdu.out, if_neg (fun h => hla h.2)])
         replace hla := Lib.hid hla
         go_wp2_with fail
         go_ret
         exact ⟨ret_int hq.out.symm, hB⟩
       ·have t7 : (d2 == 0) = false := beq_eq_false_iff_ne.2 he
        have hq : Hid (r = d2) := Lib.hid (by rw [hdu.out, if_neg (fun h => he h.1)])
        replace he := Lib.hid he
        go_wp2_with fail
        go_ret
        exact ⟨ret_int hq.out.symm, hB⟩
     ·have t6 : (od != n) = true := bne_iff_ne.2 hde
      replace hde := Lib.hid hde
      have hq : Hid (r = 17) := Lib.hid (by rw [← hr.out]; unfold RS.askReplace; rw [h4.out, if_neg (by simp), if_pos (.inr (.inr (.inr (by rw [hod.out]; exact hde.out))))])
      go_wp2_with fail
      go_ret
      exact ⟨ret_int hq.out.symm, hB⟩
    ·have t5 : (oo != n) = true := bne_iff_ne.2 hne
     replace hne := Lib.hid hne
     have hq : Hid (r = 17) := Lib.hid (by rw [← hr.out]; unfold RS.askReplace; rw [h4.out, if_neg (by simp), if_pos (.inr (.inl (by rw [hoo.out]; exact hne.out)))])
     go_wp2_with fail
     go_ret
     exact ⟨ret_int hq.out.symm, hB⟩
  ·skip
   rw [if_neg hob] at h3 h4
   obtain rfl : g1 = -1 := by rw [← hg1.out, h3]
   obtain rfl : g2 = 14 := by rw [← hg2.out, h3]
   have hq : Hid (r = 14) := Lib.hid (by rw [← hr.out]; unfold RS.askReplace; rw [h4]; rfl)
   replace h2 := Lib.hid h2
   replace h3 := Lib.hid h3
   replace h4 := Lib.hid h4
   go_wp2_with fail
   go_ret
   exact ⟨ret_int hq.out.symm, hB⟩
end Go.Proofs.YtkolilbebkkpdaaDoor

