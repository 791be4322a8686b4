/-
  A member's guard, told.
  The document's roll: the members.
  Two rolls tell the same: the walk of alike.
  The document's roll beside a roll of one's own.
-/
import Derived.Test.YtkolilbebkkpdaaDoorRmN
import Derived.Test.YtkolilbebkkpdaaDoorRmG
import Derived.Test.YtkolilbebkkpdaaDoorRmF
import Derived.Test.YtkolilbebkkpdaaDoorRmH
namespace Go.Proofs.YtkolilbebkkpdaaDoor
open Go.RowKit Go.Maps Go.BigFrame
attribute [local go_sem] in_gr

end Go.Proofs.YtkolilbebkkpdaaDoor

namespace Go.Proofs.YtkolilbebkkpdaaDoor
open Go.RowKit Go.Maps Go.BigFrame
attribute [local go_sem] in_gr

end Go.Proofs.YtkolilbebkkpdaaDoor

namespace Go.Proofs.YtkolilbebkkpdaaDoor
open Go.RowKit Go.Maps Go.BigFrame
attribute [local go_sem] in_gr

/-- Both rolls, and the variable. -/
structure AC (w : World) (bx : Nat) (y : Lay) (a : RfV) (s : RS) (L : List ME) (vs : List VI) : Prop where
 ro : RollAt w y s
 rf : RfAt w a s L vs
 box : RfBox w bx a s vs.length
theorem AC.below {w w' : World} {bx : Nat} {y : Lay} {a : RfV} {s : RS} {L : List ME} {vs : List VI} (h : AC w bx y a s L vs) (hb : Below w.heap.size w w') : AC w' bx y a s L vs :=
 ⟨h.ro.below hb, h.rf.below hb, h.box.below hb⟩
end Go.Proofs.YtkolilbebkkpdaaDoor

namespace Go.Proofs.YtkolilbebkkpdaaDoor
open Go.RowKit Go.Maps Go.BigFrame

theorem UI.kept {w w' : World} {p : Option Addr} {n : Nat} {xs : List Int} (h : UI w p n xs) {Q : Nat → Prop} (hk : ∀ j, j < w.heap.size → Q j → w'.heap[j]? = w.heap[j]?) (hp : ∀ q, p = some q → Q q.block) : UI w' p n xs := by
 refine ⟨h.len, ?_, h.bd⟩
 rcases h.rd with h1 | ⟨b', off, hp', hc⟩
 ·exact .inl h1
 ·refine .inr ⟨b', off, hp', fun j hj => ?_⟩
  have hv : (w.cell? ⟨b', off + j, none⟩) = _ := hc j hj
  have hlt : b' < w.heap.size := cell_lt (a := ⟨b', off + j, none⟩) hv
  rw [← hc j hj]
  have := hk b' hlt (hp _ hp')
  unfold World.cell?
  simp only [this]
theorem RfAt.kept {w w' : World} {a : RfV} {s : RS} {L : List ME} {vs : List VI} (h : RfAt w a s L vs) {Q : Nat → Prop} (hz : w.heap.size ≤ w'.heap.size) (hk : ∀ j, j < w.heap.size → Q j → w'.heap[j]? = w.heap[j]?) (hI : RfIn Q a L) : RfAt w' a s L vs := by
 have hr : ∀ {α : Type} {E : El α} {p : Option Addr} {l : List α}, RdE E w p l → (∀ q, p = some q → Q q.block) → RdE E w' p l := fun hR hp => hR.same hz fun a ha hlt => hk _ hlt (hp a ha)
 obtain ⟨gl, g1, g2⟩ := h.gone
 exact ⟨hr h.cards hI.pc, h.ins.kept hk hI.pi, ⟨gl, g1, g2.kept hk hI.pg⟩, hr h.lm hI.pl, h.lq, fun x hx => (h.gs x hx).kept hk (hI.gs x hx), hr h.vv hI.pv, h.nz, h.lt.mono fun _ h1 => Nat.lt_of_lt_of_le h1 hz⟩
def newV (p : Option Addr) (c : Nat) : RfV := ⟨p, c, none, 0, none, 0, none, 0, none, 0⟩
theorem newRf {w : World} {p : Option Addr} (h : RdE cardE w p cardsP) (c : Nat) (hl : LtP w.heap.size p) : RfAt w (newV p c) RS.new [] [] :=
 ⟨h, ⟨rfl, .nil, fun _ h => (by cases h)⟩, ⟨[], List.Perm.refl _, ⟨rfl, .nil, fun _ h => (by cases h)⟩⟩, fun i hi => absurd hi (Nat.not_lt_zero _), rfl, fun x h => (by cases h), fun i hi => absurd hi (Nat.not_lt_zero _), ⟨fun _ => rfl, fun _ => rfl, fun _ => rfl, fun _ => rfl⟩, ⟨hl, fun q e => (by cases e), fun q e => (by cases e), fun q e => (by cases e), fun q e => (by cases e), fun x h => (by cases h)⟩⟩
theorem newVs : VsOk RS.new [] := ⟨List.nodup_nil, fun v => ⟨fun h => (by cases h), fun ⟨p, hp, _⟩ => (by cases hp)⟩⟩
theorem newIn {P : Nat → Prop} {p : Option Addr} (c : Nat) (h : ∀ q, p = some q → P q.block) : RfIn P (newV p c) [] :=
 ⟨h, fun q e => (by cases e), fun q e => (by cases e), fun q e => (by cases e), fun q e => (by cases e), fun x h => (by cases h)⟩
/-- Where a play of both rolls stands. -/
structure PlSt (B r : Nat) (w w4 : World) (y0 : Lay) (b6 : Nat) (wr : World) (yk : Lay) (S : RS) (a : RfV) (L : List ME) (vs : List VI) : Prop where
 sit : SitW B r w wr yk S
 kp : ∀ i, i < w4.heap.size → i ∉ y0.foot → i ≠ b6 → wr.heap[i]? = w4.heap[i]? ∧ i ∉ yk.foot
 ks : w4.heap.size ≤ wr.heap.size
 box : RfBox wr b6 a S vs.length
 bo : b6 ∉ yk.foot
 rf : RfAt wr a S L vs
 vo : VsOk S vs
 ri : RfIn (fun b => b ∉ yk.foot ∧ b ≠ b6) a L
section
variable {B r : Nat} {w w4 wr W : World} {y0 yk : Lay} {b6 : Nat} {S : RS} {a : RfV} {L : List ME} {vs : List VI}
theorem PlSt.below (h : PlSt B r w w4 y0 b6 wr yk S a L vs) (hb : Below wr.heap.size wr W) : PlSt B r w w4 y0 b6 W yk S a L vs :=
 ⟨h.sit.call hb, fun i hi hn hne => by
  obtain ⟨h1, h2⟩ := h.kp i hi hn hne
  exact ⟨(hb.block i (Nat.lt_of_lt_of_le hi h.ks)).trans h1, h2⟩, Nat.le_trans h.ks hb.size, h.box.below hb, h.bo, h.rf.below hb, h.vo, h.ri⟩
end
/-- Where a play stands between: the program's roll is ahead, the document's is behind. -/
structure PlMd (B r : Nat) (w w4 : World) (y0 : Lay) (b6 : Nat) (wr : World) (yk : Lay) (S S' : RS) (a : RfV) (L : List ME) (vs : List VI) : Prop where
 sit : SitW B r w wr yk S'
 kp : ∀ i, i < w4.heap.size → i ∉ y0.foot → i ≠ b6 → wr.heap[i]? = w4.heap[i]? ∧ i ∉ yk.foot
 ks : w4.heap.size ≤ wr.heap.size
 box : RfBox wr b6 a S vs.length
 bo : b6 ∉ yk.foot
 rf : RfAt wr a S L vs
 vo : VsOk S vs
 ri : RfIn (fun b => b ∉ yk.foot ∧ b ≠ b6) a L
section
variable {B r : Nat} {w w4 wr W : World} {y0 yk yk' : Lay} {b6 : Nat} {S S' : RS} {a a' : RfV} {L L' : List ME} {vs vs' : List VI}
theorem PlMd.below (h : PlMd B r w w4 y0 b6 wr yk S S' a L vs) (hb : Below wr.heap.size wr W) : PlMd B r w w4 y0 b6 W yk S S' a L vs :=
 ⟨h.sit.call hb, fun i hi hn hne => by
  obtain ⟨h1, h2⟩ := h.kp i hi hn hne
  exact ⟨(hb.block i (Nat.lt_of_lt_of_le hi h.ks)).trans h1, h2⟩, Nat.le_trans h.ks hb.size, h.box.below hb, h.bo, h.rf.below hb, h.vo, h.ri⟩
theorem PlSt.next (h : PlSt B r w w4 y0 b6 wr yk S a L vs) (hs : SitW B r w W yk' S') (hz : wr.heap.size ≤ W.heap.size) (hk : Keeps wr W yk yk') : PlMd B r w w4 y0 b6 W yk' S S' a L vs := by
 have hbl := blk_lt h.box
 have hin : ∀ (q : Nat), q < wr.heap.size → q ∉ yk.foot → q ∉ yk'.foot := fun q h1 h2 => (hk q h1 h2).2
 have hl := h.rf.lt
 exact ⟨hs, fun i hi hn hne => by
   obtain ⟨h1, h2⟩ := h.kp i hi hn hne
   obtain ⟨h3, h4⟩ := hk i (Nat.lt_of_lt_of_le hi h.ks) h2
   exact ⟨h3.trans h1, h4⟩, Nat.le_trans h.ks hz, h.box.keep (hk b6 hbl h.bo).1, hin b6 hbl h.bo, h.rf.kept hz (fun j hj hq => (hk j hj hq).1) (h.ri.mono fun _ h => h.1), h.vo,
  ⟨fun q e => ⟨hin _ (hl.pc q e) (h.ri.pc q e).1, (h.ri.pc q e).2⟩, fun q e => ⟨hin _ (hl.pi q e) (h.ri.pi q e).1, (h.ri.pi q e).2⟩, fun q e => ⟨hin _ (hl.pg q e) (h.ri.pg q e).1, (h.ri.pg q e).2⟩, fun q e => ⟨hin _ (hl.pl q e) (h.ri.pl q e).1, (h.ri.pl q e).2⟩, fun q e => ⟨hin _ (hl.pv q e) (h.ri.pv q e).1, (h.ri.pv q e).2⟩, fun x hx q e => ⟨hin _ (hl.gs x hx q e) (h.ri.gs x hx q e).1, (h.ri.gs x hx q e).2⟩⟩⟩
/-- The document's roll catches up: a store into its variable. -/
theorem PlMd.done (h : PlMd B r w w4 y0 b6 wr yk S S' a L vs) {T : World} (hb : Below wr.heap.size wr T) (hR : RfAt T a' S' L' vs') (hV : VsOk S' vs') (hI : RfIn (fun b => b ∉ yk.foot ∧ b ≠ b6) a' L') (hB : B ≤ b6) (h0 : 0 < B) : PlSt B r w w4 y0 b6 (T.setRow b6 (rfC a' S' vs'.length)) yk S' a' L' vs' := by
 have h' := h.below hb
 have hst : ∀ j, j ≠ b6 → (T.setRow b6 (rfC a' S' vs'.length)).heap[j]? = T.heap[j]? := fun j hj => setRow_other T b6 j _ hj
 have hsz : (T.setRow b6 (rfC a' S' vs'.length)).heap.size = T.heap.size := by simp [World.setRow]
 refine ⟨h'.sit.grown (grown_row T b6 _) (fun g e => by injection e with e; subst e; exact ⟨hB, h'.bo⟩) h0, fun i hi hn hne => ?_, by rw [hsz]; exact h'.ks, setRow_heap T b6 _ _ _ _ h'.box, h'.bo, hR.setRow (hI.mono fun _ h => h.2), hV, hI⟩
 obtain ⟨h1, h2⟩ := h'.kp i hi hn hne
 exact ⟨(hst i hne).trans h1, h2⟩
theorem PlMd.same (h : PlMd B r w w4 y0 b6 wr yk S S' a L vs) (e : S = S') : PlSt B r w w4 y0 b6 wr yk S' a L vs := by
 subst e
 exact ⟨h.sit, h.kp, h.ks, h.box, h.bo, h.rf, h.vo, h.ri⟩
end
end Go.Proofs.YtkolilbebkkpdaaDoor

