import Derived.Test.YtkjggglmemafgaaGreatIMap
import Derived.Test.YtkjggglmemafgaaGreatSlice
namespace Go.Proofs.YtkjggglmemafgaaGreat
open Go Go.RowKit
set_option linter.unusedVariables false
set_option linter.unusedSimpArgs false

/-! ### Assertions over blocks, side by side -/
/-- what is said of a world, and of which blocks; it is kept by all that leaves these alone -/
structure Asn where
  p : (Nat → Prop) → World → Prop
  bd : ∀ {F w}, p F w → Bd F w
  fr : ∀ {F S w w'}, p F w → Fr S w w' → (∀ k, F k → ¬ S k) → p F w'

def Asn.top : Asn := ⟨fun F w => Bd F w, fun h => h, fun h hf _ => h.fr hf⟩
def Asn.star (A B : Asn) : Asn where
  p F w := ∃ F1 F2, (∀ k, F1 k → ¬ F2 k) ∧ (∀ k, F k ↔ F1 k ∨ F2 k) ∧ A.p F1 w ∧ B.p F2 w
  bd := fun ⟨_, _, _, h2, h3, h4⟩ k hk => ((h2 k).1 hk).elim (A.bd h3 k) (B.bd h4 k)
  fr := fun ⟨F1, F2, h1, h2, h3, h4⟩ hf hs => ⟨F1, F2, h1, h2, A.fr h3 hf (fun k hk => hs k ((h2 k).2 (.inl hk))), B.fr h4 hf (fun k hk => hs k ((h2 k).2 (.inr hk)))⟩
def sep : List Asn → Asn
  | [] => .top
  | A :: l => A.star (sep l)
def Ex {α : Type} (P : α → Asn) : Asn := ⟨fun F w => ∃ x, (P x).p F w, fun ⟨x, h⟩ => (P x).bd h, fun ⟨x, h⟩ hf hs => ⟨x, (P x).fr h hf hs⟩⟩
def Pu (q : Prop) : Asn := ⟨fun F w => q ∧ Bd F w, fun h => h.2, fun h hf _ => ⟨h.1, h.2.fr hf⟩⟩
def blkA (b : Nat) (T : TypeId) (cs : List Value) : Asn := ⟨fun F w => Blk w b T cs ∧ F b ∧ Bd F w, fun h => h.2.2, fun h hf hs => ⟨h.1.fr hf (hs _ h.2.1), h.2.1, h.2.2.fr hf⟩⟩
def mapA (m : Nat) (L : List (Int × Value)) : Asn := ⟨fun F w => w.im m = some L ∧ F m ∧ Bd F w, fun h => h.2.2, fun h hf hs => ⟨hf.im h.1 (hs _ h.2.1), h.2.1, h.2.2.fr hf⟩⟩
def slA (e : TypeId) (sz : Nat) (v : Value) (n : Nat) (xs : List Value) : Asn :=
  ⟨fun F w => Sl w e sz v n xs ∧ (∀ g, v.ownBlock = some g → F g) ∧ Bd F w, fun h => h.2.2, fun h hf hs => ⟨h.1.fr hf (fun g hg => hs _ (h.2.1 g hg)), h.2.1, h.2.2.fr hf⟩⟩
/-- the old world, as it was -/
def oldA (w0 : World) : Asn :=
  ⟨fun F w => (∀ k, F k ↔ k < w0.heap.size) ∧ w0.heap.size ≤ w.heap.size ∧ ∀ k, k < w0.heap.size → w.heap[k]? = w0.heap[k]?, fun h k hk => Nat.lt_of_lt_of_le ((h.1 k).1 hk) h.2.1,
   fun h hf hs => ⟨h.1, Nat.le_trans h.2.1 hf.size, fun k hk => (hf.block k (Nat.lt_of_lt_of_le hk h.2.1) (hs _ ((h.1 k).2 hk))).trans (h.2.2 k hk)⟩⟩

structure St (w0 : World) (l : List Asn) (w : World) : Prop where
  ext : Fr (fun _ => True) w0 w
  foot : ∃ F, (sep l).p F w

section
variable {w0 w w' : World} {l l' R : List Asn} {A B : Asn}

theorem St.fr (h : St w0 l w) (hf : Fr (fun _ => False) w w') : St w0 l w' :=
  ⟨h.ext.trans hf (fun _ _ h => h.elim), h.foot.imp fun _ hF => (sep l).fr hF hf (fun _ _ h => h)⟩
theorem St.drew (h : St w0 l w) : St w0 l w.drew := h.fr (Fr.refl _ w).drew
theorem St.drewN (h : St w0 l w) (n : Nat) : St w0 l (w.drewN n) := h.fr ((Fr.refl _ w).drewN n)
theorem St.dr (h : St w0 l w) (hd : Dr w w') : St w0 l w' := h.fr hd.fr

theorem sep_swap {F : Nat → Prop} (h : (sep (A :: B :: l)).p F w) : (sep (B :: A :: l)).p F w := by
  obtain ⟨F1, F2, h1, h2, h3, F3, F4, h4, h5, h6, h7⟩ := h
  refine ⟨F3, fun k => F1 k ∨ F4 k, fun k hk e => ?_, fun k => ?_, h6, F1, F4, fun k hk e => h1 k hk ((h5 k).2 (.inr e)), fun _ => Iff.rfl, h3, h7⟩
  · rcases e with e | e
    · exact h1 k e ((h5 k).2 (.inl hk))
    · exact h4 k hk e
  · rw [h2, h5]; constructor
    · rintro (h | h | h)
      · exact .inr (.inl h)
      · exact .inl h
      · exact .inr (.inr h)
    · rintro (h | h | h)
      · exact .inr (.inl h)
      · exact .inl h
      · exact .inr (.inr h)
theorem sep_mono {F : Nat → Prop} (hl : ∀ F, (sep l).p F w → (sep l').p F w) (h : (sep (A :: l)).p F w) : (sep (A :: l')).p F w := by
  obtain ⟨F1, F2, h1, h2, h3, h4⟩ := h
  exact ⟨F1, F2, h1, h2, h3, hl _ h4⟩
theorem sep_head {F : Nat → Prop} (hl : ∀ F, A.p F w → B.p F w) (h : (sep (A :: l)).p F w) : (sep (B :: l)).p F w := by
  obtain ⟨F1, F2, h1, h2, h3, h4⟩ := h
  exact ⟨F1, F2, h1, h2, hl _ h3, h4⟩

/-- bring the i-th to the front -/
def mtf : Nat → List Asn → List Asn
  | 0, l => l
  | _ + 1, [] => []
  | i + 1, A :: l => match mtf i l with
    | B :: l' => B :: A :: l'
    | [] => [A]
theorem sep_mtf : ∀ (i : Nat) (l : List Asn) (F : Nat → Prop), (sep l).p F w → (sep (mtf i l)).p F w
  | 0, _, _, h => h
  | _ + 1, [], _, h => h
  | i + 1, A :: l, F, h => by
    have h' := sep_mono (fun F hF => sep_mtf i l F hF) h
    unfold mtf
    split
    · next B l' e => rw [e] at h'; exact sep_swap h'
    · next e => rw [e] at h'; exact h'
theorem St.at (i : Nat) (h : St w0 l w) : St w0 (mtf i l) w := ⟨h.ext, h.foot.imp fun F hF => sep_mtf i l F hF⟩
/-- put the front back to the i-th place -/
def mtb : Nat → List Asn → List Asn
  | 0, l => l
  | _ + 1, [] => []
  | _ + 1, [A] => [A]
  | i + 1, A :: B :: l => B :: mtb i (A :: l)
theorem sep_mtb : ∀ (i : Nat) (l : List Asn) (F : Nat → Prop), (sep l).p F w → (sep (mtb i l)).p F w
  | 0, _, _, h => h
  | _ + 1, [], _, h => h
  | _ + 1, [_], _, h => h
  | i + 1, A :: B :: l, F, h => sep_mono (fun F hF => sep_mtb i (A :: l) F hF) (sep_swap h)
theorem St.back (i : Nat) (h : St w0 l w) : St w0 (mtb i l) w := ⟨h.ext, h.foot.imp fun F hF => sep_mtb i l F hF⟩
theorem St.drop (h : St w0 (A :: l) w) : St w0 l w := by
  obtain ⟨F, F1, F2, h1, h2, h3, h4⟩ := h.foot
  exact ⟨h.ext, F2, h4⟩
theorem St.head (h : St w0 (A :: R) w) (hl : ∀ F, A.p F w → B.p F w) : St w0 (B :: R) w := ⟨h.ext, h.foot.imp fun _ hF => sep_head hl hF⟩
theorem sep_flat : ∀ {l : List Asn} {F : Nat → Prop}, (sep (sep l :: R)).p F w → ∃ F', (sep (l ++ R)).p F' w ∧ ∀ k, F' k → F k
  | [], F, h => by
    obtain ⟨F1, F2, h1, h2, h3, h4⟩ := h
    exact ⟨F2, h4, fun k hk => (h2 k).2 (.inr hk)⟩
  | A :: l, F, h => by
    obtain ⟨F1, F2, h1, h2, ⟨F3, F4, h3, h4, h5, h6⟩, h7⟩ := h
    obtain ⟨F', hF', hs⟩ := sep_flat (l := l) (F := fun k => F4 k ∨ F2 k) ⟨F4, F2, fun k hk => h1 k ((h4 k).2 (.inr hk)), fun _ => Iff.rfl, h6, h7⟩
    refine ⟨fun k => F3 k ∨ F' k, ⟨F3, F', fun k hk e => ?_, fun _ => Iff.rfl, h5, hF'⟩, fun k hk => ?_⟩
    · rcases hs k e with e | e
      · exact h3 k hk e
      · exact h1 k ((h4 k).2 (.inl hk)) e
    · rcases hk with hk | hk
      · exact (h2 k).2 (.inl ((h4 k).2 (.inl hk)))
      · rcases hs k hk with hk | hk
        · exact (h2 k).2 (.inl ((h4 k).2 (.inr hk)))
        · exact (h2 k).2 (.inr hk)
theorem sep_fold : ∀ {l : List Asn} {F : Nat → Prop}, (sep (l ++ R)).p F w → (sep (sep l :: R)).p F w
  | [], F, h => ⟨fun _ => False, F, fun _ h => h.elim, fun k => (false_or (F k)).symm ▸ Iff.rfl, fun _ h => h.elim, h⟩
  | A :: l, F, h => by
    obtain ⟨F1, F2, h1, h2, h3, h4⟩ := h
    obtain ⟨F3, F4, h5, h6, h7, h8⟩ := sep_fold h4
    refine ⟨fun k => F1 k ∨ F3 k, F4, fun k hk e => ?_, fun k => ?_, ⟨F1, F3, fun k hk e => h1 k hk ((h6 k).2 (.inl e)), fun _ => Iff.rfl, h3, h7⟩, h8⟩
    · rcases hk with hk | hk
      · exact h1 k hk ((h6 k).2 (.inr e))
      · exact h5 k hk e
    · rw [h2, h6, or_assoc]
theorem St.flat (h : St w0 (sep l :: R) w) : St w0 (l ++ R) w := by
  obtain ⟨F, hF⟩ := h.foot
  obtain ⟨F', hF', -⟩ := sep_flat (F := F) hF
  exact ⟨h.ext, F', hF'⟩
theorem St.fold (l : List Asn) (h : St w0 (l ++ R) w) : St w0 (sep l :: R) w := ⟨h.ext, h.foot.imp fun _ hF => sep_fold hF⟩
theorem St.ex {α : Type} {P : α → Asn} (h : St w0 (Ex P :: R) w) : ∃ x, St w0 (P x :: R) w := by
  obtain ⟨F, F1, F2, h1, h2, ⟨x, h3⟩, h4⟩ := h.foot
  exact ⟨x, h.ext, F, F1, F2, h1, h2, h3, h4⟩
theorem St.exI {α : Type} {P : α → Asn} (x : α) (h : St w0 (P x :: R) w) : St w0 (Ex P :: R) w := h.head fun _ hF => ⟨x, hF⟩
theorem St.pu {q : Prop} (h : St w0 (Pu q :: R) w) : q ∧ St w0 R w := by
  obtain ⟨F, F1, F2, h1, h2, h3, h4⟩ := h.foot
  exact ⟨h3.1, h.ext, F2, h4⟩
theorem St.puI {q : Prop} (hq : q) (h : St w0 R w) : St w0 (Pu q :: R) w := by
  obtain ⟨F, hF⟩ := h.foot
  exact ⟨h.ext, F, fun _ => False, F, fun _ h => h.elim, fun k => (false_or (F k)).symm ▸ Iff.rfl, ⟨hq, fun _ h => h.elim⟩, hF⟩

/-- a step at the front: what a contract over its own blocks gives -/
theorem St.step (h : St w0 (A :: R) w) : ∃ F, A.p F w ∧ ∀ {B : Asn} {w' : World}, B.p (gr F w w') w' → Fr F w w' → St w0 (B :: R) w' := by
  obtain ⟨F, F1, F2, h1, h2, h3, h4⟩ := h.foot
  have hb := (sep R).bd h4
  refine ⟨F1, h3, fun {B w'} hB hf => ⟨h.ext.trans hf (fun _ _ _ => trivial), fun k => gr F1 w w' k ∨ F2 k, gr F1 w w', F2, fun k hk e => ?_, fun _ => Iff.rfl, hB, (sep R).fr h4 hf (fun k hk e => h1 k e hk)⟩⟩
  exact h1 k (gr_old hk (hb k e)) e
/-- .. that makes new memory alone -/
theorem St.new (h : St w0 R w) (hf : Fr (fun _ => False) w w') (hB : B.p (fun k => w.heap.size ≤ k ∧ k < w'.heap.size) w') : St w0 (B :: R) w' := by
  obtain ⟨F, hF⟩ := h.foot
  have hb := (sep R).bd hF
  exact ⟨h.ext.trans hf (fun _ _ h => h.elim), fun k => (w.heap.size ≤ k ∧ k < w'.heap.size) ∨ F k, _, F, fun k hk e => by have := hb k e; omega, fun _ => Iff.rfl, hB, (sep R).fr hF hf (fun _ _ h => h)⟩
theorem St.alloc (h : St w0 R w) (cs : List Value) (T : TypeId) {B : Nat} (hB : w.heap.size = B := by simp) : St w0 (blkA B T cs :: R) (w.alloc (.cells cs.toArray T)) := by
  subst hB
  exact h.new ((Fr.refl _ w).alloc _) ⟨Blk.new w cs T, ⟨Nat.le_refl _, by simp⟩, fun k hk => hk.2⟩
theorem St.allocMap (h : St w0 R w) {B : Nat} (hB : w.heap.size = B := by simp) : St w0 (mapA B [] :: R) (w.alloc (.map #[] 0)) := by
  subst hB
  exact h.new ((Fr.refl _ w).alloc _) ⟨im_made w, ⟨Nat.le_refl _, by simp⟩, fun k hk => hk.2⟩
/-- new memory that nobody asks about -/
theorem St.skip (h : St w0 R w) (o : Obj) : St w0 R (w.alloc o) := h.fr ((Fr.refl _ w).alloc o)

theorem St.hd (h : St w0 (A :: R) w) : ∃ F, A.p F w := by
  obtain ⟨F, F1, F2, h1, h2, h3, h4⟩ := h.foot
  exact ⟨F1, h3⟩
theorem St.blk {b : Nat} {T : TypeId} {cs : List Value} (h : St w0 (blkA b T cs :: R) w) : Blk w b T cs := by obtain ⟨F, hF⟩ := h.hd; exact hF.1
theorem St.im {m : Nat} {L : List (Int × Value)} (h : St w0 (mapA m L :: R) w) : w.im m = some L := by obtain ⟨F, hF⟩ := h.hd; exact hF.1
theorem St.sl {e : TypeId} {sz : Nat} {v : Value} {n : Nat} {xs : List Value} (h : St w0 (slA e sz v n xs :: R) w) : Sl w e sz v n xs := by obtain ⟨F, hF⟩ := h.hd; exact hF.1
theorem St.set {b : Nat} {T : TypeId} {cs : List Value} (h : St w0 (blkA b T cs :: R) w) (i : Nat) (v : Value) : St w0 (blkA b T (cs.set i v) :: R) (w.setCell ⟨b, i, none⟩ v) := by
  obtain ⟨F, ⟨hB, hb, hbd⟩, next⟩ := h.step
  have hf : Fr F w (w.setCell ⟨b, i, none⟩ v) := (Fr.refl F w).setCell (fun _ => hb) v
  exact next (B := blkA b T (cs.set i v)) ⟨hB.set i v, gr_in hb, hbd.gr hf⟩ hf
theorem St.mput {m : Nat} {L : List (Int × Value)} (h : St w0 (mapA m L :: R) w) (k : Int) (v : Value) : St w0 (mapA m (put L k v) :: R) (w.mput m k v) := by
  obtain ⟨F, ⟨hB, hb, hbd⟩, next⟩ := h.step
  have hf : Fr F w (w.mput m k v) := (Fr.refl F w).mput (fun _ => hb) k v
  exact next (B := mapA m (put L k v)) ⟨im_mput hB k v, gr_in hb, hbd.gr hf⟩ hf
theorem St.mdel {m : Nat} {L : List (Int × Value)} (h : St w0 (mapA m L :: R) w) (k : Int) : St w0 (mapA m (del L k) :: R) (w.mdel m k) := by
  obtain ⟨F, ⟨hB, hb, hbd⟩, next⟩ := h.step
  have hf : Fr F w (w.mdel m k) := (Fr.refl F w).mdel (fun _ => hb) k
  exact next (B := mapA m (del L k)) ⟨im_mdel hB k, gr_in hb, hbd.gr hf⟩ hf
/-- behind an append onto a slice of one's own -/
theorem St.append {e : TypeId} {sz : Nat} {v v' : Value} {n n' : Nat} {xs xs' : List Value} (h : St w0 (slA e sz v n xs :: R) w) (hs : Sl w' e sz v' n' xs') (hg : w.grownBy w' v.ownBlock) (hb : v'.ownBlock = v.ownBlock ∨ v'.ownBlock = some w.heap.size) : St w0 (slA e sz v' n' xs' :: R) w' := by
  obtain ⟨F, ⟨hB, hF, hbd⟩, next⟩ := h.step
  have hf : Fr F w w' := (Fr.refl F w).grown hg (fun k _ e => hF k e)
  refine next (B := slA e sz v' n' xs') ⟨hs, fun g hg' => ?_, hbd.gr hf⟩ hf
  rcases hb with hb | hb
  · exact gr_in (hF g (hb ▸ hg'))
  · have := hs.lt hg'
    rw [hb] at hg'; cases hg'; exact gr_new (Nat.le_refl _) this
theorem St.slNil (h : St w0 R w) (e : TypeId) (sz : Nat) : St w0 (slA e sz (.slice none 0 0) 0 [] :: R) w :=
  h.new (Fr.refl _ w) ⟨Sl.nil w e sz, (fun g hg => by cases hg), fun k hk => hk.2⟩
/-- a slice over a new block -/
theorem St.slOf {b : Nat} {T : TypeId} {cs : List Value} {n sz : Nat} (h : St w0 (blkA b T cs :: R) w) (hl : cs.length = n * sz) (hm : n ≤ maxLen) : St w0 (slA T sz (.slice (some ⟨b, 0, none⟩) n n) n cs :: R) w :=
  h.head fun F hF => ⟨⟨hl, .inr ⟨b, 0, n, cs.toArray, rfl, hF.1, Nat.le_refl _, hm, by simp [hl], by simp [← hl]⟩⟩, (fun g hg => by cases hg; exact hF.2.1), hF.2.2⟩
theorem St.ne {b c : Nat} {T U : TypeId} {cs ds : List Value} (h : St w0 (blkA b T cs :: blkA c U ds :: R) w) : b ≠ c := by
  obtain ⟨F, F1, F2, h1, h2, h3, F3, F4, h4, h5, h6, h7⟩ := h.foot
  rintro rfl
  exact h1 _ h3.2.1 ((h5 _).2 (.inl h6.2.1))
theorem St.old (h : St w0 (oldA w0 :: R) w) : Fr (fun _ => False) w0 w := by
  obtain ⟨F, hF⟩ := h.hd
  exact ⟨h.ext.os, h.ext.tape, h.ext.output, h.ext.size, fun k hk _ => hF.2.2 k hk⟩
theorem sep_perm (hp : l.Perm l') : ∀ (F : Nat → Prop), (sep l).p F w → (sep l').p F w := by
  induction hp with
  | nil => exact fun _ h => h
  | cons _ _ ih => exact fun _ h => sep_mono ih h
  | swap _ _ _ => exact fun _ h => sep_swap h
  | trans _ _ ih1 ih2 => exact fun F h => ih2 F (ih1 F h)
theorem St.perm (h : St w0 l w) (hp : l.Perm l') : St w0 l' w := ⟨h.ext, h.foot.imp fun F hF => sep_perm hp F hF⟩
/-- one of many -/
def bigA {ι : Type} (f : ι → Asn) (l : List ι) : Asn := sep (l.map f)
theorem St.pick {ι : Type} {f : ι → Asn} {l1 l2 : List ι} {x : ι} (h : St w0 (bigA f (l1 ++ x :: l2) :: R) w) : St w0 (f x :: bigA f (l1 ++ l2) :: R) w := by
  have h1 : St w0 ((l1 ++ x :: l2).map f ++ R) w := St.flat h
  have h2 : St w0 (f x :: ((l1 ++ l2).map f ++ R)) w := h1.perm (by
    simp only [List.map_append, List.map_cons, List.append_assoc, List.cons_append]
    exact List.perm_middle)
  have h3 : St w0 ([f x] ++ (sep ((l1 ++ l2).map f) :: R)) w := by
    refine ⟨h2.ext, h2.foot.imp fun F hF => ?_⟩
    exact sep_mono (fun F hF => sep_fold hF) hF
  exact h3
theorem St.unpick {ι : Type} {f : ι → Asn} {l1 l2 : List ι} {x : ι} (h : St w0 (f x :: bigA f (l1 ++ l2) :: R) w) : St w0 (bigA f (l1 ++ x :: l2) :: R) w := by
  have h1 := (h.at 1).flat.perm (l' := (f x :: ((l1 ++ l2).map f ++ R))) (by
    show ((l1 ++ l2).map f ++ f x :: R).Perm _
    exact List.perm_middle)
  have h2 : St w0 ((l1 ++ x :: l2).map f ++ R) w := h1.perm (by
    simp only [List.map_append, List.map_cons, List.append_assoc, List.cons_append]
    exact List.perm_middle.symm)
  exact h2.fold
theorem St.bigNil {ι : Type} (f : ι → Asn) (h : St w0 R w) : St w0 (bigA f [] :: R) w := h.fold (l := [])
theorem St.bigCons {ι : Type} {f : ι → Asn} {x : ι} {l : List ι} (h : St w0 (f x :: bigA f l :: R) w) : St w0 (bigA f (x :: l) :: R) w := St.unpick (l1 := []) h
theorem St.bigSnoc {ι : Type} {f : ι → Asn} {x : ι} {l : List ι} (h : St w0 (f x :: bigA f l :: R) w) : St w0 (bigA f (l ++ [x]) :: R) w := St.unpick (l1 := l) (l2 := []) (by simpa using h)
theorem St.start (w0 : World) : St w0 [oldA w0] w0 :=
  ⟨Fr.refl _ _, fun k => k < w0.heap.size, fun k => k < w0.heap.size, fun _ => False, fun _ _ h => h, fun _ => (or_false _).symm ▸ Iff.rfl, ⟨fun _ => Iff.rfl, Nat.le_refl _, fun _ _ => rfl⟩, fun _ h => h.elim⟩
end
end Go.Proofs.YtkjggglmemafgaaGreat
