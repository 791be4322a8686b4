/-
  A chain of bytes; plain Lean: what is put is got, and nothing else.
-/
import Derived.Test.YtcnhgkgabddjmaaChP
namespace Go.Proofs.Ytcnhgkgabddjmaa
open Go.RowKit Go.Maps

def gA (bs : List Int) : Nat × Nat × Int := rdNum bs (0, 0)
def gS (bs : List Int) : Nat × Nat × Int := rdNum bs (gA bs).2
def gM (bs : List Int) : Int × Nat × Int := rdMany 50 bs (gS bs).2
def gK (bs : List Int) (j : Nat) : List (Int × Int) × Nat × Int := rdKs bs (gM bs).2 j
/-- Whether bytes are a chain. -/
def getOk (bs : List Int) : Prop :=
  (goodL (unI (gA bs).1) (gK bs (gM bs).1.toNat).1).2 = true ∧ 0 ≤ unI (gA bs).1 ∧ unI (gA bs).1 ≤ 1073741824 ∧
    ((1 ≤ ((gS bs).1 : Int) ∧ ((gS bs).1 : Int) ≤ 2305843009213693949) ∨ ((gS bs).1 = 0 ∧ (gK bs (gM bs).1.toNat).1 = [])) ∧
    (gK bs (gM bs).1.toNat).2.2 = 0 ∧ (gK bs (gM bs).1.toNat).2.1 = bs.length
/-- The chain of bytes. -/
def getM (bs : List Int) : Ch := ⟨(unI (gA bs).1).toNat, (gS bs).1, (gK bs (gM bs).1.toNat).1⟩
/-- A chain whose bytes are a chain. -/
structure Ch.Fine (m : Ch) : Prop where
  ok : m.Ok
  num : m.num ≤ 1073741824
  shut : m.st = 0 → m.ks = []
theorem rdKs_len (bs : List Int) (s : Nat × Int) (j : Nat) : (rdKs bs s j).1.length = j := by
  induction j with
  | zero => rfl
  | succ j ih => show ((rdKs bs s j).1 ++ [_]).length = _; rw [List.length_append, ih]; rfl
theorem rdKs_err {bs : List Int} {s : Nat × Int} {j : Nat} (h : (rdKs bs s j).2.2 = 0) : s.2 = 0 := by
  induction j with
  | zero => exact h
  | succ j ih => exact ih (rdNum_err _ _ (rdNum_err _ _ h))
theorem rdKs_bd {bs : List Int} (hb : ∀ x ∈ bs, 0 ≤ x ∧ x < 256) {s : Nat × Int} (hs : s.1 ≤ bs.length) (j : Nat) : (rdKs bs s j).2.1 ≤ bs.length := by
  induction j with
  | zero => exact hs
  | succ j ih => exact (rdNum_bd hb (rdNum_bd hb ih).2).2
theorem rdNum_split {bs : List Int} {s : Nat × Int} (hb : ∀ x ∈ bs, 0 ≤ x ∧ x < 256) (hs : s.1 ≤ bs.length) (h : (rdNum bs s).2.2 = 0) :
    s.2 = 0 ∧ bs.drop s.1 = sevens (rdNum bs s).1 ++ bs.drop (rdNum bs s).2.1 ∧ (rdNum bs s).1 < 18446744073709551616 ∧ (rdNum bs s).2.1 ≤ bs.length := by
  obtain ⟨v, a, e, hq⟩ : ∃ v a e, rdNum bs s = (v, a, e) := ⟨_, _, _, rfl⟩
  rw [hq] at h ⊢
  dsimp only at h ⊢
  subst h
  obtain ⟨h1, h2, h3, _, h4⟩ := rdNum_ok hb hs hq
  exact ⟨h1, h2, h3, h4⟩
theorem rdKs_split {bs : List Int} (hb : ∀ x ∈ bs, 0 ≤ x ∧ x < 256) {s : Nat × Int} (hs : s.1 ≤ bs.length) (j : Nat) (h : (rdKs bs s j).2.2 = 0) (h0 : ∀ p ∈ (rdKs bs s j).1, 0 ≤ p.1) :
    bs.drop s.1 = putKs (rdKs bs s j).1 ++ bs.drop (rdKs bs s j).2.1 := by
  induction j with
  | zero => rfl
  | succ j ih =>
    have hj := rdKs_bd hb hs j
    have e2 := rdNum_split hb (rdNum_bd hb hj).2 h
    have e1 := rdNum_split hb hj e2.1
    have hi := ih e1.1 (fun p hp => h0 p (List.mem_append_left _ hp))
    have hn := h0 _ (List.mem_append_right _ (List.mem_singleton.2 rfl))
    dsimp only at hn
    rw [hi, e1.2.1, e2.2.1]
    show _ = putKs (_ ++ [_]) ++ _
    rw [putKs_append]
    show _ = (putKs _ ++ ((sevens (2 * (unI _).toNat) ++ sevens (Int.toNat _)) ++ [])) ++ _
    rw [← unI_pos hn, Int.toNat_natCast]
    simp only [List.append_nil, List.append_assoc]
    rfl
theorem put_get {bs : List Int} (hb : ∀ x ∈ bs, 0 ≤ x ∧ x < 256) (h : getOk bs) : putB (getM bs) = bs ∧ (getM bs).Fine := by
  obtain ⟨h1, h2, h3, h4, h5, h6⟩ := h
  have hA0 : ((0, 0) : Nat × Int).1 ≤ bs.length := Nat.zero_le _
  have bA := rdNum_bd hb hA0
  have bS := rdNum_bd hb bA.2
  have e0 := rdKs_err h5
  have hM : ¬ (unI (rdNum bs (gS bs).2).1 < 0 ∨ 50 < unI (rdNum bs (gS bs).2).1) := fun hc => by
    have : (gM bs).2.2 = 7 := by unfold gM rdMany; rw [if_pos hc]
    omega
  have eM : gM bs = (unI (rdNum bs (gS bs).2).1, (rdNum bs (gS bs).2).2) := by unfold gM rdMany; rw [if_neg hM]
  have eM1 : (gM bs).1 = unI (rdNum bs (gS bs).2).1 := by rw [eM]
  have eM2 : (gM bs).2 = (rdNum bs (gS bs).2).2 := by rw [eM]
  have bM := rdNum_bd hb bS.2
  have G := (goodL_iff _ _).1.1 h1
  have sK := rdKs_split hb (show (gM bs).2.1 ≤ bs.length by rw [eM2]; exact bM.2) _ h5 (fun p hp => (G.low p hp).1)
  rw [eM2] at e0
  have sM := rdNum_split hb bS.2 e0
  have sS := rdNum_split hb bA.2 sM.1
  have sA := rdNum_split hb hA0 sS.1
  have hlen : (gK bs (gM bs).1.toNat).1.length = (gM bs).1.toNat := rdKs_len _ _ _
  have hm0 : 0 ≤ (gM bs).1 := by rw [eM1]; omega
  refine ⟨?_, ⟨?_, G.rise, fun p hp => ?_, G.val, ?_⟩, ?_, ?_⟩
  · have hd := sA.2.1
    rw [List.drop_zero] at hd
    have hS : bs.drop (rdNum bs (0, 0)).2.1 = sevens (gS bs).1 ++ bs.drop (gS bs).2.1 := sS.2.1
    have hMm : bs.drop (gS bs).2.1 = sevens (rdNum bs (gS bs).2).1 ++ bs.drop (rdNum bs (gS bs).2).2.1 := sM.2.1
    have hK : bs.drop (rdNum bs (gS bs).2).2.1 = putKs (gK bs (gM bs).1.toNat).1 ++ bs.drop (gK bs (gM bs).1.toNat).2.1 := by
      rw [← eM2]; exact sK
    have hend : bs.drop (gK bs (gM bs).1.toNat).2.1 = [] := by rw [h6]; exact List.drop_length
    rw [hend, List.append_nil] at hK
    unfold putB getM
    dsimp only
    rw [← unI_pos h2, Int.toNat_natCast, hlen, eM1, ← unI_pos (by rw [← eM1]; exact hm0)]
    rw [← eM1, List.append_assoc, List.append_assoc, ← hK, ← hMm, ← hS]
    exact hd.symm
  · show ((gS bs).1 : Int) = 0 ∨ _
    rcases h4 with h | h
    · exact .inr h
    · exact .inl (by omega)
  · have := G.low p hp
    refine ⟨this.1, ?_⟩
    show p.1 < (((unI (gA bs).1).toNat : Nat) : Int)
    omega
  · show (gK bs (gM bs).1.toNat).1.length ≤ 50
    rw [hlen]; omega
  · show (unI (gA bs).1).toNat ≤ 1073741824
    omega
  · intro (h0 : ((gS bs).1 : Int) = 0)
    rcases h4 with h | h
    · omega
    · exact h.2
theorem rdKs_go {bs : List Int} : ∀ (ks : List (Int × Int)) (a : Nat) (r : List Int), (∀ p ∈ ks, 0 ≤ p.1 ∧ p.1 ≤ 1073741824 ∧ 0 ≤ p.2 ∧ p.2 < 18446744073709551616) → bs.drop a = putKs ks ++ r → a ≤ bs.length →
    ∃ a', rdKs bs (a, 0) ks.length = (ks, a', 0) ∧ bs.drop a' = r ∧ a' ≤ bs.length := by
  intro ks
  induction ks using snoc_ind with
  | h0 => intro a r _ h ha; exact ⟨a, rfl, h, ha⟩
  | h1 ks p ih =>
    intro a r hb h ha
    rw [putKs_append, List.append_assoc] at h
    obtain ⟨a1, h1, h2, h3⟩ := ih a _ (fun q hq => hb q (List.mem_append_left _ hq)) h ha
    have hp := hb p (by simp)
    have h2' : bs.drop a1 = sevens (2 * p.1.toNat) ++ (sevens p.2.toNat ++ r) := by
      rw [h2]
      show ((sevens (2 * p.1.toNat) ++ sevens p.2.toNat) ++ []) ++ r = _
      rw [List.append_nil, List.append_assoc]
    obtain ⟨g1, g2⟩ := rdNum_go (by omega) h2'
    obtain ⟨g3, g4⟩ := rdNum_go (by omega) g2
    refine ⟨bs.length - r.length, ?_, g4, by omega⟩
    rw [List.length_append]
    show rdKs bs (a, 0) (ks.length + 1) = _
    unfold rdKs
    simp only [h1, g1, g3, unI_two]
    have e1 : ((p.1.toNat : Nat) : Int) = p.1 := by omega
    have e2 : ((p.2.toNat : Nat) : Int) = p.2 := by omega
    rw [e1, e2]
theorem get_put {m : Ch} (h : m.Fine) : getOk (putB m) ∧ getM (putB m) = m := by
  have hnum := h.num
  have hst := h.ok.st64
  have hfew := h.ok.few
  have hb0 : (putB m).drop 0 = sevens (2 * m.num) ++ (sevens m.st.toNat ++ (sevens (2 * m.ks.length) ++ (putKs m.ks ++ []))) := by
    unfold putB; rw [List.drop_zero]; simp only [List.append_assoc, List.append_nil]
  obtain ⟨a1, a2⟩ := rdNum_go (by omega) hb0
  obtain ⟨s1, s2⟩ := rdNum_go (by omega) a2
  obtain ⟨k1, k2⟩ := rdNum_go (by omega) s2
  obtain ⟨z, z1, z2, z3⟩ := rdKs_go m.ks _ _ (fun p hp => by
    have h1 := h.ok.low p hp
    have h2 := h.ok.val p hp
    omega) k2 (by omega)
  have eA := a1
  change gA (putB m) = _ at eA
  have eS : gS (putB m) = (m.st.toNat, (putB m).length - (sevens (2 * m.ks.length) ++ (putKs m.ks ++ [])).length, 0) := by unfold gS; rw [eA]; exact s1
  have eM : gM (putB m) = ((m.ks.length : Int), (putB m).length - (putKs m.ks ++ []).length, 0) := by unfold gM rdMany; rw [eS, k1]; dsimp only; rw [unI_two, if_neg (by omega)]
  have eK : gK (putB m) (gM (putB m)).1.toNat = (m.ks, z, 0) := by
    unfold gK; rw [eM]; dsimp only; rw [Int.toNat_natCast]; exact z1
  have hz : z = (putB m).length := by
    have := congrArg List.length z2
    rw [List.length_drop] at this
    simp at this
    omega
  have e1 : ((m.st.toNat : Nat) : Int) = m.st := by omega
  constructor
  · unfold getOk
    rw [eK, eA, eS]
    dsimp only
    rw [unI_two]
    refine ⟨(goodL_iff _ _).1.2 ⟨h.ok.rise, h.ok.low, h.ok.val⟩, by omega, by omega, ?_, rfl, hz⟩
    rw [e1]
    rcases h.ok.st with h0 | h0
    · exact .inr ⟨by omega, h.shut h0⟩
    · exact .inl h0
  · unfold getM
    rw [eK, eA, eS]
    dsimp only
    rw [unI_two, e1, Int.toNat_natCast]
theorem putKs_inj : ∀ (a b : List (Int × Int)) (t t' : List Int), (∀ p ∈ a, 0 ≤ p.1 ∧ p.1 ≤ 1073741824 ∧ 0 ≤ p.2 ∧ p.2 < 18446744073709551616) → (∀ p ∈ b, 0 ≤ p.1 ∧ p.1 ≤ 1073741824 ∧ 0 ≤ p.2 ∧ p.2 < 18446744073709551616) → a.length = b.length → putKs a ++ t = putKs b ++ t' → t = t'
  | [], [], t, t', _, _, _, h => h
  | [], _ :: _, _, _, _, _, h, _ => by cases h
  | _ :: _, [], _, _, _, _, h, _ => by cases h
  | p :: a, q :: b, t, t', ha, hb, hl, h => by
    have hp := ha p (List.mem_cons_self ..)
    have hq := hb q (List.mem_cons_self ..)
    have h' : sevens (2 * p.1.toNat) ++ (sevens p.2.toNat ++ (putKs a ++ t)) = sevens (2 * q.1.toNat) ++ (sevens q.2.toNat ++ (putKs b ++ t')) := by
      have := h
      show _ = _
      unfold putKs at this
      simpa only [List.append_assoc] using this
    obtain ⟨_, h1⟩ := sevens_inj (by omega) (by omega) h'
    obtain ⟨_, h2⟩ := sevens_inj (by omega) (by omega) h1
    exact putKs_inj a b t t' (fun x hx => ha x (List.mem_cons_of_mem _ hx)) (fun x hx => hb x (List.mem_cons_of_mem _ hx)) (by simpa using hl) h2
theorem putB_inj {m n : Ch} (hm : m.Fine) (hn : n.Fine) {t t' : List Int} (h : putB m ++ t = putB n ++ t') : t = t' := by
  have bm := hm.num
  have bn := hn.num
  have sm := hm.ok.st64
  have sn := hn.ok.st64
  have fm := hm.ok.few
  have fn := hn.ok.few
  unfold putB at h
  simp only [List.append_assoc] at h
  obtain ⟨_, h1⟩ := sevens_inj (by omega) (by omega) h
  obtain ⟨_, h2⟩ := sevens_inj (by omega) (by omega) h1
  obtain ⟨h3, h4⟩ := sevens_inj (by omega) (by omega) h2
  have K : ∀ {c : Ch}, c.Fine → ∀ p ∈ c.ks, 0 ≤ p.1 ∧ p.1 ≤ 1073741824 ∧ 0 ≤ p.2 ∧ p.2 < 18446744073709551616 := fun hc p hp => by
    have h1 := hc.ok.low p hp
    have h2 := hc.ok.val p hp
    have h3 := hc.num
    omega
  exact putKs_inj _ _ _ _ (K hm) (K hn) (by omega) h4
theorem putB_bytes (m : Ch) : ∀ x ∈ putB m, 0 ≤ x ∧ x < 256 := by
  have hK : ∀ ks : List (Int × Int), ∀ x ∈ putKs ks, 0 ≤ x ∧ x < 256 := fun ks => by
    induction ks with
    | nil => intro x hx; cases hx
    | cons p ks ih =>
      intro x hx
      rcases List.mem_append.1 hx with hx | hx
      · rcases List.mem_append.1 hx with hx | hx <;> exact sevens_bd _ x hx
      · exact ih x hx
  intro x hx
  unfold putB at hx
  rcases List.mem_append.1 hx with hx | hx
  · rcases List.mem_append.1 hx with hx | hx
    · rcases List.mem_append.1 hx with hx | hx <;> exact sevens_bd _ x hx
    · exact sevens_bd _ x hx
  · exact hK _ x hx
theorem get_cut {m : Ch} (h : m.Fine) {k : Nat} (hk : k < (putB m).length) : ¬ getOk ((putB m).take k) := fun hg => by
  obtain ⟨h1, h2⟩ := put_get (fun x hx => putB_bytes m x (List.mem_of_mem_take hx)) hg
  have h3 : putB (getM ((putB m).take k)) ++ (putB m).drop k = putB m ++ [] := by rw [h1, List.take_append_drop, List.append_nil]
  have h4 := congrArg List.length (putB_inj h2 h h3)
  rw [List.length_drop] at h4
  simp at h4
  omega
theorem get_more {m : Ch} (h : m.Fine) {c : Int} (hc : 0 ≤ c ∧ c < 256) : ¬ getOk (putB m ++ [c]) := fun hg => by
  obtain ⟨h1, h2⟩ := put_get (fun x hx => by
    rcases List.mem_append.1 hx with hx | hx
    · exact putB_bytes m x hx
    · rw [List.mem_singleton] at hx; subst hx; exact hc) hg
  have h3 : putB (getM (putB m ++ [c])) ++ [] = putB m ++ [c] := by rw [h1, List.append_nil]
  have h4 := putB_inj h2 h h3
  cases h4
theorem Ch.fill_nz (c : Ch) (j : Nat) : (c.fill j).step.st ≠ 0 := by
  have := secI_bd nextL [(c.fill j).st]
  show secI nextL [(c.fill j).st] ≠ 0
  omega
theorem act_shut {m : Ch} (h : m.st = 0 → m.ks = []) (a : Int × Int) : (m.act a).1.st = 0 → (m.act a).1.ks = [] := by
  unfold Ch.act
  split
  · unfold Ch.next
    split
    · exact h
    · intro h0
      have := secI_bd nextL [m.st]
      have h0 : secI nextL [m.st] = 0 := h0
      omega
  · split
    · intro _; rfl
    · by_cases hs : m.st = 0
      · rw [Ch.ask_zero a.2 hs]; exact h
      · cases hv : valK m.ks a.2 with
        | some v => rw [Ch.ask_some hs hv]; exact fun h0 => absurd h0 hs
        | none =>
          by_cases hn : a.2 < m.num
          · rw [Ch.ask_used hs hv hn]; exact h
          · by_cases hf : 50 - (m.ks.length : Int) < a.2 - m.num
            · rw [Ch.ask_full hs hv hn hf]; exact h
            · rw [Ch.ask_ok hs hv hn hf]
              intro h0
              exact absurd h0 (Ch.fill_nz m _)
theorem acts_shut (l : List (Int × Int)) : ∀ {m : Ch}, (m.st = 0 → m.ks = []) → ((m.acts l).st = 0 → (m.acts l).ks = []) := by
  induction l with
  | nil => intro m h; exact h
  | cons a l ih => intro m h; exact ih (act_shut h a)
theorem Ch.Fine.acts (e d : Int) (xs : List Int) : ((Ch.new e d).acts (actsOf xs)).Fine ∧ ((Ch.new e d).acts (actsOf xs)).num ≤ 1000 := by
  obtain ⟨h1, h2⟩ := (Ch.Ok.new e d).acts (actsOf xs)
  have hl : (actsOf xs).length ≤ 16 := by unfold actsOf; rw [List.length_map, List.length_take]; omega
  have h3 : (Ch.new e d).num = 0 := rfl
  exact ⟨⟨h1, by omega, acts_shut _ fun _ => rfl⟩, by omega⟩
end Go.Proofs.Ytcnhgkgabddjmaa
