/-
  The document's vouches compared; plain: when the document's rolls are the same.
  The document's rolls compared; plain Lean: what the document compares is what the program compares.
-/
import Derived.Test.YtkolilbebkkpdaaDoorRmJ
import Derived.Test.YtkolilbebkkpdaaDoorRsRoSa
namespace Go.Proofs.YtkolilbebkkpdaaDoor
open Go.RowKit

instance : DecidableEq VI := fun x y =>
 if h : x.f = y.f ∧ x.b = y.b ∧ x.d = y.d ∧ x.a = y.a then .isTrue (by cases x; cases y; obtain ⟨rfl, rfl, rfl, rfl⟩ := h; rfl) else .isFalse (fun e => h (by subst e; exact ⟨rfl, rfl, rfl, rfl⟩))
theorem v_stood : Tryd.prog.stoodInHeld 128 = false := by kernel_rfl
theorem v_guard : Tryd.prog.eqGuardType Tryd.prog.depth 128 = false := by kernel_rfl
set_option maxRecDepth 100000 in
theorem id_eqIn (n : Nat) (i j : Idn) (w : World) : (Op.equalIn (n + 2) 34 (.agg #[.int .i64 i.b, .int .i64 i.s, .int .u64 i.u]) (.agg #[.int .i64 j.b, .int .i64 j.s, .int .u64 j.u])).run Tryd.prog w = .ok (decide (i = j)) w := by
 have hu : Tryd.prog.underlying 34 = some (.struct (Tryd.prog.fieldsOf 34)) := by kernel_rfl
 rw [run_equalIn_agg w (n + 1) _ _ _ hu id_stood]
 have p1 : ∀ x y z : Value, (part 3 #[x, y, z] 0).run Tryd.prog w = .ok x w := fun _ _ _ => by kernel_rfl
 have p2 : ∀ x y z : Value, (part 3 #[x, y, z] 1).run Tryd.prog w = .ok y w := fun _ _ _ => by kernel_rfl
 have p3 : ∀ x y z : Value, (part 32 #[x, y, z] 2).run Tryd.prog w = .ok z w := fun _ _ _ => by kernel_rfl
 obtain ⟨f1, f2, f3, hf, n1, n2, n3, t1, t2, t3, o1, o2, o3⟩ : ∃ f1 f2 f3 : Field, (Tryd.prog.fieldsOf 34).toList = [f1, f2, f3] ∧ f1.name ≠ "_" ∧ f2.name ≠ "_" ∧ f3.name ≠ "_" ∧ f1.type = 3 ∧ f2.type = 3 ∧ f3.type = 32 ∧ f1.offset = 0 ∧ f2.offset = 1 ∧ f3.offset = 2 := by
  simp only [Program.fieldsOf, Tryd.underlying34]
  exact ⟨_, _, _, rfl, by decide, by decide, by decide, rfl, rfl, rfl, rfl, rfl, rfl⟩
 rw [hf, eqF w (n + 1) _ _ f1 _ n1 (by rw [t1, o1]; exact p1 _ _ _) (by rw [t1, o1]; exact p1 _ _ _) (by rw [t1]; exact run_equalIn_int w n 3 .i64 .i64 _ _ Tryd.underlying3),
  eqF w (n + 1) _ _ f2 _ n2 (by rw [t2, o2]; exact p2 _ _ _) (by rw [t2, o2]; exact p2 _ _ _) (by rw [t2]; exact run_equalIn_int w n 3 .i64 .i64 _ _ Tryd.underlying3),
  eqF w (n + 1) _ _ f3 _ n3 (by rw [t3, o3]; exact p3 _ _ _) (by rw [t3, o3]; exact p3 _ _ _) (by rw [t3]; exact run_equalIn_int w n 32 .u64 .u64 _ _ Tryd.underlying32)]
 have hnil : (Op.eqFields (n + 1) #[.int .i64 i.b, .int .i64 i.s, .int .u64 i.u] #[.int .i64 j.b, .int .i64 j.s, .int .u64 j.u] []).run Tryd.prog w = .ok true w := rfl
 rw [hnil]
 obtain ⟨a, b, c⟩ := i
 obtain ⟨a', b', c'⟩ := j
 by_cases h1 : a = a'
 ·by_cases h2 : b = b'
  ·by_cases h3 : c = c'
   ·subst h1; subst h2; subst h3
    simp
   ·simp [h1, h2, h3]
  ·simp [h1, h2]
 ·simp [h1]
set_option maxRecDepth 100000 in
theorem vi_eql (x y : VI) (w : World) : (binOp .eql 128 (.agg (vC x)) (.agg (vC y))).run Tryd.prog w = .ok (.bool (decide (x = y))) w := by
 have hu : Tryd.prog.underlying 128 = some (.struct (Tryd.prog.fieldsOf 128)) := by kernel_rfl
 rw [run_eql_struct, run_equalIn_agg w 9999 _ _ _ hu v_stood]
 have p1 : ∀ a b c d e f : Value, (part 34 #[a, b, c, d, e, f] 0).run Tryd.prog w = .ok (.agg #[a, b, c]) w := fun _ _ _ _ _ _ => by kernel_rfl
 have p2 : ∀ a b c d e f : Value, (part 3 #[a, b, c, d, e, f] 3).run Tryd.prog w = .ok d w := fun _ _ _ _ _ _ => by kernel_rfl
 have p3 : ∀ a b c d e f : Value, (part 3 #[a, b, c, d, e, f] 4).run Tryd.prog w = .ok e w := fun _ _ _ _ _ _ => by kernel_rfl
 have p4 : ∀ a b c d e f : Value, (part 3 #[a, b, c, d, e, f] 5).run Tryd.prog w = .ok f w := fun _ _ _ _ _ _ => by kernel_rfl
 obtain ⟨f1, f2, f3, f4, hf, n1, n2, n3, n4, t1, t2, t3, t4, o1, o2, o3, o4⟩ : ∃ f1 f2 f3 f4 : Field, (Tryd.prog.fieldsOf 128).toList = [f1, f2, f3, f4] ∧ f1.name ≠ "_" ∧ f2.name ≠ "_" ∧ f3.name ≠ "_" ∧ f4.name ≠ "_" ∧ f1.type = 34 ∧ f2.type = 3 ∧ f3.type = 3 ∧ f4.type = 3 ∧ f1.offset = 0 ∧ f2.offset = 3 ∧ f3.offset = 4 ∧ f4.offset = 5 := by
  simp only [Program.fieldsOf, Tryd.underlying128]
  exact ⟨_, _, _, _, rfl, by decide, by decide, by decide, by decide, rfl, rfl, rfl, rfl, rfl, rfl, rfl, rfl⟩
 unfold vC
 rw [hf, eqF w 9999 _ _ f1 _ n1 (by rw [t1, o1]; exact p1 _ _ _ _ _ _) (by rw [t1, o1]; exact p1 _ _ _ _ _ _) (by rw [t1]; exact id_eqIn 9997 x.f y.f w),
  eqF w 9999 _ _ f2 _ n2 (by rw [t2, o2]; exact p2 _ _ _ _ _ _) (by rw [t2, o2]; exact p2 _ _ _ _ _ _) (by rw [t2]; exact run_equalIn_int w 9998 3 .i64 .i64 _ _ Tryd.underlying3),
  eqF w 9999 _ _ f3 _ n3 (by rw [t3, o3]; exact p3 _ _ _ _ _ _) (by rw [t3, o3]; exact p3 _ _ _ _ _ _) (by rw [t3]; exact run_equalIn_int w 9998 3 .i64 .i64 _ _ Tryd.underlying3),
  eqF w 9999 _ _ f4 _ n4 (by rw [t4, o4]; exact p4 _ _ _ _ _ _) (by rw [t4, o4]; exact p4 _ _ _ _ _ _) (by rw [t4]; exact run_equalIn_int w 9998 3 .i64 .i64 _ _ Tryd.underlying3)]
 have hnil : (Op.eqFields 9999 #[.int .i64 x.f.b, .int .i64 x.f.s, .int .u64 x.f.u, .int .i64 x.b, .int .i64 x.d, .int .i64 x.a] #[.int .i64 y.f.b, .int .i64 y.f.s, .int .u64 y.f.u, .int .i64 y.b, .int .i64 y.d, .int .i64 y.a] []).run Tryd.prog w = .ok true w := rfl
 rw [hnil]
 obtain ⟨f, b, d, a⟩ := x
 obtain ⟨f', b', d', a'⟩ := y
 by_cases h1 : f = f'
 ·by_cases h2 : b = b'
  ·by_cases h3 : d = d'
   ·by_cases h4 : a = a'
    ·subst h1; subst h2; subst h3; subst h4
     simp [Result.andThen]
    ·simp [h1, h2, h3, h4, Result.andThen]
   ·simp [h1, h2, h3, Result.andThen]
  ·simp [h1, h2, Result.andThen]
 ·simp [h1, Result.andThen]
end Go.Proofs.YtkolilbebkkpdaaDoor

namespace Go.Proofs.YtkolilbebkkpdaaDoor

theorem perm_sub {α : Type} [DecidableEq α] {a b : List α} (ha : a.Nodup) (hb : b.Nodup) (hl : a.length = b.length) (h : ∀ x ∈ a, x ∈ b) : a.Perm b := by
 refine (List.perm_ext_iff_of_nodup ha hb).2 fun x => ⟨h x, fun hx => ?_⟩
 by_cases hxa : x ∈ a
 ·exact hxa
 ·have h1 := nodup_leG a (b.erase x) ha fun y hy => (List.mem_erase_of_ne (fun e => hxa (by subst e; exact hy))).2 (h y hy)
  rw [List.length_erase_of_mem hx] at h1
  have := List.length_pos_of_mem hx
  omega
theorem eqI_perm {a b : List Int} (ha : a.Nodup) (hb : b.Nodup) : eqI a b = true ↔ a.Perm b := by
 unfold eqI
 rw [Bool.and_eq_true, decide_eq_true_eq, List.all_eq_true]
 constructor
 ·rintro ⟨h1, h2⟩
  exact perm_sub ha hb h1 fun x hx => of_decide_eq_true (h2 x hx)
 ·intro h
  exact ⟨h.length_eq, fun x hx => decide_eq_true (h.mem_iff.1 hx)⟩
theorem sortI_iff {a b : List Int} : sortI a = sortI b ↔ a.Perm b :=
 ⟨fun h => (sortI_perm a).symm.trans (h ▸ sortI_perm b), sortI_congr⟩
theorem nodup_of_fst {α β : Type} {l : List (α × β)} (h : (l.map Prod.fst).Nodup) : l.Nodup := (List.pairwise_map.1 h).imp fun hne e => hne (by rw [e])
theorem eqV_perm {a b : List ((Int × Int) × Int)} (ha : (a.map Prod.fst).Nodup) (hb : (b.map Prod.fst).Nodup) : eqV a b = true ↔ a.Perm b := by
 unfold eqV
 rw [Bool.and_eq_true, decide_eq_true_eq, List.all_eq_true]
 constructor
 ·rintro ⟨h1, h2⟩
  exact perm_sub (nodup_of_fst ha) (nodup_of_fst hb) h1 fun x hx => lk_mem (of_decide_eq_true (h2 x hx))
 ·intro h
  exact ⟨h.length_eq, fun x hx => decide_eq_true (lk_of_mem (b := x.2) hb (h.mem_iff.1 hx))⟩
def mEq (x y : Mb) : Bool := decide (x.r = y.r) && decide (isO x.g = isO y.g) && decide (idO x.g = idO y.g) && decide (gsO x.g = gsO y.g) && decide (nO x.g = nO y.g) && decide (tO x.g = tO y.g) && decide (obO x.g = obO y.g) && decide (laO x.g = laO y.g)
theorem mEq_iff {x y : Mb} : mEq x y = true ↔ x.r = y.r ∧ isO x.g = isO y.g ∧ idO x.g = idO y.g ∧ gsO x.g = gsO y.g ∧ nO x.g = nO y.g ∧ tO x.g = tO y.g ∧ obO x.g = obO y.g ∧ laO x.g = laO y.g := by
 unfold mEq
 simp only [Bool.and_eq_true, decide_eq_true_eq, and_assoc]
def msF (b : List (Int × Mb)) (p : Int × Mb) : Bool := match lk b p.1 with | some m => mEq p.2 m | none => false
def msL (a b : List (Int × Mb)) : Bool := a.all (msF b)
def vsL (a b : List VI) : Bool := a.all fun v => decide (v ∈ b)
def rsame (s t : RS) (vs vt : List VI) : Bool := decide (sortI s.ins = sortI t.ins) && decide (sortI s.gone = sortI t.gone) && decide (s.bk = t.bk) && decide (s.ms.length = t.ms.length) && decide (vs.length = vt.length) && msL s.ms t.ms && vsL vs vt
theorem vs_nodup {s : RS} {vs : List VI} (h : VsOk s vs) : vs.Nodup := (List.pairwise_map.1 h.nd).imp fun hne e => hne (by rw [e])
theorem sameG_iff {x y : Option Gd} : sameG x y = true ↔ (x = none ∧ y = none) ∨ ∃ g h, x = some g ∧ y = some h ∧ g.id = h.id ∧ g.gs = h.gs ∧ g.n = h.n ∧ g.t = h.t ∧ eqV g.vo h.vo = true ∧ g.ob = h.ob ∧ g.la = h.la := by
 cases x with
 | none => cases y with
  | none => simp [sameG]
  | some h => simp [sameG]
 | some g => cases y with
  | none => simp [sameG]
  | some h => simp [sameG, and_assoc]
theorem rsame_eq {s t : RS} {vs vt : List VI} {k k' : Nat} (hs : s.Ok k) (ht : t.Ok k') (hV : VsOk s vs) (hW : VsOk t vt) : rsame s t vs vt = s.same t := by
 obtain ⟨hsi, hsg, _⟩ := List.nodup_append.1 hs.nd
 obtain ⟨hti, htg, _⟩ := List.nodup_append.1 ht.nd
 rw [Bool.eq_iff_iff]
 unfold rsame RS.same
 simp only [Bool.and_eq_true, decide_eq_true_eq, sortI_iff, eqI_perm hsi hti, eqI_perm hs.nd ht.nd]
 have hmem : ∀ {n : Int} {m : Mb}, (n, m) ∈ s.ms → s.memb n = some m := fun h => lk_of_mem hs.mn h
 have hmemt : ∀ {n : Int} {m : Mb}, lk t.ms n = some m → t.memb n = some m := fun h => h
 constructor
 ·rintro ⟨⟨⟨⟨⟨⟨h1, h2⟩, h3⟩, h4⟩, h5⟩, h6⟩, h7⟩
  have hvp : vs.Perm vt := perm_sub (vs_nodup hV) (vs_nodup hW) h5 fun v hv => of_decide_eq_true ((List.all_eq_true.1 h7) v hv)
  refine ⟨⟨⟨h1, h1.append h2⟩, h3⟩, ?_⟩
  unfold sameL
  rw [Bool.and_eq_true, decide_eq_true_eq, List.all_eq_true]
  refine ⟨h4, fun p hp => ?_⟩
  have h8 := (List.all_eq_true.1 h6) p hp
  unfold msF at h8
  cases e : lk t.ms p.1 with
  | none => rw [e] at h8; cases h8
  | some m =>
   rw [e] at h8
   obtain ⟨n, mb⟩ := p
   obtain ⟨r1, r2, r3, r4, r5, r6, r7, r8⟩ := mEq_iff.1 h8
   show sameM mb m = true
   unfold sameM
   rw [Bool.and_eq_true, decide_eq_true_eq]
   refine ⟨r1, sameG_iff.2 ?_⟩
   obtain ⟨mr, mg⟩ := mb
   obtain ⟨tr, tg⟩ := m
   cases mg with
   | none => cases tg with
    | none => exact .inl ⟨rfl, rfl⟩
    | some h => cases r2
   | some g => cases tg with
    | none => cases r2
    | some h =>
     have q3 : g.id = h.id := r3
     refine .inr ⟨g, h, rfl, rfl, r3, r4, r5, r6, ?_, r7, r8⟩
     have hgs := hs.gd _ hp g rfl
     have hgt := ht.gd _ (lk_mem e) h rfl
     rw [eqV_perm hgs.vn hgt.vn]
     refine (List.perm_ext_iff_of_nodup (nodup_of_fst hgs.vn) (nodup_of_fst hgt.vn)).2 fun x => ?_
     have k1 := hV.key hs (hmem hp) (v := ⟨g.id, x.1.1, x.1.2, x.2⟩) rfl
     have k2 := hW.key ht (hmemt e) (v := ⟨g.id, x.1.1, x.1.2, x.2⟩) q3
     exact k1.symm.trans (hvp.mem_iff.trans k2)
 ·rintro ⟨⟨⟨h1, h2⟩, h3⟩, h4⟩
  unfold sameL at h4
  rw [Bool.and_eq_true, decide_eq_true_eq, List.all_eq_true] at h4
  obtain ⟨h5, h6⟩ := h4
  have hg : s.gone.Perm t.gone := (List.perm_append_left_iff s.ins).1 (h2.trans (h1.symm.append_right t.gone))
  have hat : ∀ p ∈ s.ms, ∃ m, lk t.ms p.1 = some m ∧ sameM p.2 m = true := fun p hp => by
   have := h6 p hp
   cases e : lk t.ms p.1 with
   | none => rw [e] at this; cases this
   | some m => rw [e] at this; exact ⟨m, rfl, this⟩
  have hkeys : (s.ms.map Prod.fst).Perm (t.ms.map Prod.fst) := perm_sub hs.mn ht.mn (by rw [List.length_map, List.length_map, h5]) fun x hx => by
   obtain ⟨p, hp, rfl⟩ := List.mem_map.1 hx
   obtain ⟨m, e, _⟩ := hat p hp
   exact List.mem_map.2 ⟨_, lk_mem e, rfl⟩
  have hms : msL s.ms t.ms = true := List.all_eq_true.2 fun p hp => by
   obtain ⟨m, e, hm⟩ := hat p hp
   unfold msF
   rw [e]
   unfold sameM at hm
   rw [Bool.and_eq_true, decide_eq_true_eq] at hm
   refine mEq_iff.2 ⟨hm.1, ?_⟩
   rcases sameG_iff.1 hm.2 with ⟨e1, e2⟩ | ⟨g, h, e1, e2, r1, r2, r3, r4, _, r6, r7⟩
   ·rw [e1, e2]; exact ⟨rfl, rfl, rfl, rfl, rfl, rfl, rfl⟩
   ·rw [e1, e2]; exact ⟨rfl, r1, r2, r3, r4, r6, r7⟩
  have hvp : vs.Perm vt := by
   refine (List.perm_ext_iff_of_nodup (vs_nodup hV) (vs_nodup hW)).2 fun v => ?_
   rw [hV.mem, hW.mem]
   constructor
   ·rintro ⟨p, hp, g, e1, e2, e3⟩
    obtain ⟨m, e, hm⟩ := hat p hp
    unfold sameM at hm
    rw [Bool.and_eq_true] at hm
    rcases sameG_iff.1 hm.2 with ⟨f1, _⟩ | ⟨g', h, f1, f2, r1, _, _, _, r5, _, _⟩
    ·rw [e1] at f1; cases f1
    ·rw [e1] at f1
     injection f1 with f1
     subst f1
     have hpv := (eqV_perm (hs.gd p hp g e1).vn (ht.gd _ (lk_mem e) h f2).vn).1 r5
     exact ⟨_, lk_mem e, h, f2, r1.symm.trans e2, hpv.mem_iff.1 e3⟩
   ·rintro ⟨p, hp, h, e1, e2, e3⟩
    obtain ⟨p', hp', e4⟩ := List.mem_map.1 (hkeys.mem_iff.2 (List.mem_map.2 ⟨p, hp, rfl⟩))
    obtain ⟨m, e, hm⟩ := hat p' hp'
    have hmp : m = p.2 := by
     have := lk_of_mem (a := p.1) (b := p.2) ht.mn hp
     rw [e4, this] at e
     injection e with e
     exact e.symm
    subst hmp
    unfold sameM at hm
    rw [Bool.and_eq_true] at hm
    rcases sameG_iff.1 hm.2 with ⟨_, f2⟩ | ⟨g, h', f1, f2, r1, _, _, _, r5, _, _⟩
    ·rw [e1] at f2; cases f2
    ·rw [e1] at f2
     injection f2 with f2
     subst f2
     have hpv := (eqV_perm (hs.gd p' hp' g f1).vn (ht.gd p hp h e1).vn).1 r5
     exact ⟨p', hp', g, f1, r1.trans e2, hpv.mem_iff.2 e3⟩
  exact ⟨⟨⟨⟨⟨⟨h1, hg⟩, h3⟩, h5⟩, hvp.length_eq⟩, hms⟩, List.all_eq_true.2 fun v hv => decide_eq_true (hvp.mem_iff.1 hv)⟩
end Go.Proofs.YtkolilbebkkpdaaDoor

