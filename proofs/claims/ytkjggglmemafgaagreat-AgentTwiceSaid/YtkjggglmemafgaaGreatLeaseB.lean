import Derived.Test.YtkjggglmemafgaaGreatLease
import Derived.Test.YtkjggglmemafgaaGreatKeys
import Derived.Test.YtkjggglmemafgaaGreatPool
namespace Go.Proofs.YtkjggglmemafgaaGreat
open Go Go.RowKit
set_option maxRecDepth 20000

def stepH (x : Int × (Int × Int)) : Option (Int × (Int × Int)) := if 1 < x.2.2 then some (x.1, (x.2.1, x.2.2 - 1)) else none
def goneOf (A : List (Int × (Int × Int))) : List Int := (A.filter fun x => !decide (1 < x.2.2)).map (·.1)
def overOf (o : Int → Int) (A : List (Int × (Int × Int))) : Int → Int := fun k => A.foldl (fun r x => if x.1 = k ∧ ¬ 1 < x.2.2 then max r x.2.1 else r) (o k)
def LeaseM.tick (m : LeaseM) : LeaseM := { m with held := m.held.filterMap stepH, over := overOf m.over m.held }
def LeaseM.gone (m : LeaseM) : List Int := goneOf m.held
structure LeaseOk (m : LeaseM) : Prop where
  ticks : 1 ≤ m.ticks ∧ m.ticks ≤ 1000
  held : ∀ x ∈ m.held, 1 ≤ x.1 ∧ x.1 ≤ 65535 ∧ 1 ≤ x.2.1 ∧ x.2.1 ≤ 1073741824 ∧ 1 ≤ x.2.2 ∧ x.2.2 ≤ 1000
  over : ∀ k, 0 ≤ m.over k ∧ m.over k ≤ 1073741824

def heldAt (A : List (Int × (Int × Int))) (k : Nat) : List (Int × (Int × Int)) := (A.take k).filterMap stepH ++ A.drop k

theorem srt_len {α : Type} : ∀ (A : List (Int × α)) (lo hi : Int), Srt A → (∀ x ∈ A, lo ≤ x.1 ∧ x.1 ≤ hi) → (A.length : Int) ≤ max 0 (hi - lo + 1)
  | [], _, _, _, _ => by simp; omega
  | a :: A, lo, hi, hs, hb => by
    have hs' := List.pairwise_cons.1 hs
    have ha := hb a (List.mem_cons_self ..)
    have := srt_len A (a.1 + 1) hi hs'.2 (fun x hx => ⟨by have := hs'.1 x hx; omega, (hb x (List.mem_cons_of_mem _ hx)).2⟩)
    simp only [List.length_cons]; omega

section
variable {A : List (Int × (Int × Int))} {k : Nat} {t j l : Int}
theorem drop_cons (h : A[k]? = some (t, (j, l))) : A.drop k = (t, (j, l)) :: A.drop (k + 1) := by
  obtain ⟨hlt, e⟩ := List.getElem?_eq_some_iff.1 h
  rw [List.drop_eq_getElem_cons hlt, e]
theorem pre_ne (hs : Srt A) (h : A[k]? = some (t, (j, l))) : (∀ x ∈ (A.take k).filterMap stepH, x.1 ≠ t) ∧ (∀ x ∈ A.drop (k + 1), x.1 ≠ t) := by
  have hA : A = A.take k ++ (t, (j, l)) :: A.drop (k + 1) := by rw [← drop_cons h, List.take_append_drop]
  have hp := hs
  rw [Srt, hA, List.pairwise_append, List.pairwise_cons] at hp
  constructor
  · intro x hx
    obtain ⟨y, hy, hyx⟩ := List.mem_filterMap.1 hx
    have := hp.2.2 y hy _ (List.mem_cons_self ..)
    unfold stepH at hyx
    split at hyx
    · cases hyx; simp at this ⊢; omega
    · cases hyx
  · intro x hx
    have := hp.2.1.1 x hx
    simp at this; omega
theorem get_heldAt (hs : Srt A) (h : A[k]? = some (t, (j, l))) (z : Int × Int) : get (heldAt A k) t z = (j, l) := by
  unfold heldAt
  rw [drop_cons h]
  have := (pre_ne hs h).1
  generalize (A.take k).filterMap stepH = pre at this
  induction pre with
  | nil => simp [get_cons]
  | cons x pre ih =>
    rw [List.cons_append, get_cons, if_neg (this x (List.mem_cons_self ..))]
    exact ih (fun y hy => this y (List.mem_cons_of_mem _ hy))
theorem has_heldAt (h : A[k]? = some (t, (j, l))) : has (heldAt A k) t = true := by
  rw [has_iff]; unfold heldAt; rw [drop_cons h]; simp
theorem take_step (h : A[k]? = some (t, (j, l))) : (A.take (k + 1)).filterMap stepH = (A.take k).filterMap stepH ++ (if 1 < l then [(t, (j, l - 1))] else []) := by
  rw [List.take_add_one, h]
  simp only [Option.toList_some, List.filterMap_append]
  congr 1
  simp only [List.filterMap_cons, List.filterMap_nil, stepH]
  split <;> simp_all
theorem heldAt_keep (hs : Srt A) (h : A[k]? = some (t, (j, l))) (hl : 1 < l) : ((heldAt A k).map fun p => if p.1 = t then (t, (j, l - 1)) else p) = heldAt A (k + 1) := by
  obtain ⟨h1, h2⟩ := pre_ne hs h
  unfold heldAt
  rw [take_step h, drop_cons h, if_pos hl, List.map_append, List.map_cons, if_pos rfl, List.append_assoc]
  rw [List.map_congr_left (g := id) (l := (A.take k).filterMap stepH) (fun x hx => by rw [if_neg (h1 x hx)]; rfl), List.map_id,
    List.map_congr_left (g := id) (l := A.drop (k + 1)) (fun x hx => by rw [if_neg (h2 x hx)]; rfl), List.map_id]
  rfl
theorem heldAt_gone (hs : Srt A) (h : A[k]? = some (t, (j, l))) (hl : ¬ 1 < l) : del (heldAt A k) t = heldAt A (k + 1) := by
  obtain ⟨h1, h2⟩ := pre_ne hs h
  unfold heldAt
  rw [take_step h, drop_cons h, if_neg hl, List.append_nil]
  unfold del
  rw [List.filter_append, List.filter_cons]
  simp only [beq_self_eq_true, Bool.not_true, Bool.false_eq_true, if_false]
  rw [List.filter_eq_self.2 (fun x hx => by simpa using h1 x hx), List.filter_eq_self.2 (fun x hx => by simpa using h2 x hx)]
theorem goneOf_take (h : A[k]? = some (t, (j, l))) : goneOf (A.take (k + 1)) = goneOf (A.take k) ++ (if 1 < l then [] else [t]) := by
  rw [List.take_add_one, h]
  simp only [goneOf, Option.toList_some, List.filter_append, List.map_append]
  congr 1
  simp only [List.filter_cons, List.filter_nil]
  split <;> simp_all
theorem overOf_take (o : Int → Int) (h : A[k]? = some (t, (j, l))) (i : Int) : overOf o (A.take (k + 1)) i = if t = i ∧ ¬ 1 < l then max (overOf o (A.take k) i) j else overOf o (A.take k) i := by
  rw [List.take_add_one, h]
  simp [overOf, List.foldl_append]
end

theorem srt_step {A : List (Int × (Int × Int))} (h : Srt A) : Srt (A.filterMap stepH) := by
  refine List.Pairwise.filterMap _ ?_ h
  intro a a' haa b hb b' hb'
  unfold stepH at hb hb'
  split at hb
  · split at hb'
    · simp at hb hb'; subst hb; subst hb'; exact haa
    · cases hb'
  · cases hb
theorem srt_heldAt {A : List (Int × (Int × Int))} (h : Srt A) (k : Nat) : Srt (heldAt A k) := by
  have hA : A = A.take k ++ A.drop k := (List.take_append_drop k A).symm
  have hp := h
  rw [Srt, hA, List.pairwise_append] at hp
  unfold heldAt Srt
  rw [List.pairwise_append]
  refine ⟨srt_step hp.1, hp.2.1, ?_⟩
  intro a ha b hb
  obtain ⟨y, hy, hya⟩ := List.mem_filterMap.1 ha
  have := hp.2.2 y hy b hb
  unfold stepH at hya
  split at hya
  · cases hya; exact this
  · cases hya
theorem heldV_mk (a b : Int) : heldV (a, b) = .agg #[.int .i64 a, .int .i64 b] := rfl
theorem get_held0 (L : List (Int × (Int × Int))) (k : Int) : get (mv heldV L) k (.agg #[.int .i64 0, .int .i64 0]) = heldV (get L k (0, 0)) := get_mv heldV L k (0, 0)
theorem del_put {α : Type} (L : List (Int × α)) (k : Int) (v : α) : del (put L k v) k = del L k := by
  unfold put
  split
  · next h =>
    clear h
    induction L with
    | nil => rfl
    | cons x L ih =>
      rw [List.map_cons, del_cons, del_cons, ih]
      by_cases c : x.1 = k
      · simp [c]
      · simp [c]
  · simp [del]

def TickPost (F : Nat → Prop) (w : World) (b : Nat) (m : LeaseM) (e : Ending) (w' : World) : Prop :=
  ∃ v, e = .returned v ∧ Sl w' 3 1 v m.gone.length (m.gone.map (Value.int .i64)) ∧ (∀ g, v.ownBlock = some g → w.heap.size ≤ g) ∧ (v = .slice none 0 0 ↔ m.gone = []) ∧ LeaseR F w' b m.tick ∧ Fr F w w'

/-- behind k rounds -/
def TickAt (F : Nat → Prop) (w w1 : World) (b hb ob : Nat) (m : LeaseM) (kv : Value) (k : Nat) (gv : Value) (wr : World) : Prop :=
  Sl wr 3 1 gv (goneOf (m.held.take k)).length ((goneOf (m.held.take k)).map (Value.int .i64)) ∧ (∀ g, gv.ownBlock = some g → w1.heap.size ≤ g) ∧ (gv = .slice none 0 0 ↔ goneOf (m.held.take k) = []) ∧
  (∃ Lh Lo, wr.im hb = some (mv heldV Lh) ∧ Lh.Perm (heldAt m.held k) ∧ wr.im ob = some (mv (Value.int .i64) Lo) ∧ ∀ j, get Lo j 0 = overOf m.over (m.held.take k) j) ∧
  Blk wr b 159 [.int .i64 m.ticks, .map (some hb), .map (some ob)] ∧ Sl wr 3 1 kv m.held.length ((m.held.map (·.1)).map (Value.int .i64)) ∧ Fr F w wr ∧ w1.heap.size ≤ wr.heap.size


theorem TickAt.step {F : Nat → Prop} {w w1 wr W : World} {b hb ob : Nat} {m : LeaseM} {kv gv gv' : Value} {k : Nat} {Lh2 : List (Int × (Int × Int))} {Lo2 : List (Int × Int)}
    (hB : Blk wr b 159 [.int .i64 m.ticks, .map (some hb), .map (some ob)])
    (hK : Sl wr 3 1 kv m.held.length ((m.held.map (·.1)).map (Value.int .i64))) (hkb : ∀ g, kv.ownBlock = some g → g ≠ hb ∧ g ≠ ob ∧ gv.ownBlock ≠ some g)
    (hF : Fr F w wr) (hsz : w1.heap.size ≤ wr.heap.size) (hw : w.heap.size ≤ w1.heap.size) (f2 : F hb) (f3 : F ob)
    (hG : ∀ g, gv.ownBlock = some g → w1.heap.size ≤ g)
    (hbb : b ≠ hb ∧ b ≠ ob ∧ gv.ownBlock ≠ some b)
    (hf : Fr (fun k => k = hb ∨ k = ob ∨ gv.ownBlock = some k) wr W)
    (i1 : W.im hb = some (mv heldV Lh2)) (i2 : Lh2.Perm (heldAt m.held (k + 1))) (i3 : W.im ob = some (mv (Value.int .i64) Lo2)) (i4 : ∀ j, get Lo2 j 0 = overOf m.over (m.held.take (k + 1)) j)
    (hS : Sl W 3 1 gv' (goneOf (m.held.take (k + 1))).length ((goneOf (m.held.take (k + 1))).map (Value.int .i64)))
    (hN : gv' = .slice none 0 0 ↔ goneOf (m.held.take (k + 1)) = []) (hG' : ∀ g, gv'.ownBlock = some g → w1.heap.size ≤ g) :
    TickAt F w w1 b hb ob m kv (k + 1) gv' W := by
  refine ⟨hS, hG', hN, ⟨Lh2, Lo2, i1, i2, i3, i4⟩, hB.fr hf (by rintro (h | h | h); exact hbb.1 h; exact hbb.2.1 h; exact hbb.2.2 h), hK.fr hf ?_, hF.trans hf ?_, Nat.le_trans hsz hf.size⟩
  · intro g hg
    obtain ⟨h1, h2, h3⟩ := hkb g hg
    rintro (h | h | h)
    · exact h1 h
    · exact h2 h
    · exact h3 h
  · rintro g hg (rfl | rfl | h)
    · exact f2
    · exact f3
    · have := hG g h; omega

attribute [local go_sem] heldV_mk get_held0
set_option maxHeartbeats 2000000 in
theorem lease_tick (F : Nat → Prop) (b : Nat) (m : LeaseM) (w : World) (h : LeaseR F w b m) (hok : LeaseOk m) :
    Calls Tryz.prog 58 #[.pointer (some ⟨b,0,none⟩)] w (TickPost F w b m) := by
  obtain ⟨⟨hb, ob, Lh, Lo, hB, f1, f2, f3, hne, h1, h2, h3, h4⟩, hs, bd⟩ := h
  have hlen : m.held.length ≤ 65535 := by have := srt_len m.held 1 65535 hs (fun x hx => ⟨(hok.held x hx).1, (hok.held x hx).2.1⟩); omega
  have hlL : Lh.length ≤ 65535 := by rw [h2.length_eq]; exact hlen
  have hkeys : keysOf (mv heldV Lh) = m.held.map (·.1) := keysOf_perm (by rw [mv, List.map_map]; exact h2.map _) hs
  have c1 := hB.get (i := 1) rfl
  have C2 : ∀ W B, W.cell? ⟨B, 0, none⟩ = some (.map (some hb)) → W.im hb = some (mv heldV Lh) → Calls Tryz.prog 107 #[.func (.func 134) #[] #[.pointer (some ⟨B, 0, none⟩)]] W (NewInts W (m.held.map (·.1))) := by
    intro W B q1 q2
    have := sorted_held B hb W _ q1 q2 (by
      intro p hp
      obtain ⟨x, hx, rfl⟩ := List.mem_map.1 hp
      have := hok.held x (h2.mem_iff.1 hx)
      exact ⟨by simp; omega, by simp; omega⟩) (by rw [length_mv]; omega)
    rwa [hkeys] at this
  have HK : Hid (keysOf (mv heldV Lh) = m.held.map (·.1)) := hkeys
  clear hkeys
  go_enter Tryz.func58, Tryz.ntmps58
  go_wp2_with fail
  refine (keys_held hb w).mono ?_
  rintro e w0 ⟨rfl, rfl⟩
  go_wp2_with fail
  refine (C2 _ _ (by simp) (im_alloc h1 _)).mono ?_
  rintro e w1 ⟨kv, rfl, hS, hG, hN, hF1⟩
  rw [List.length_map] at hS
  obtain ⟨ka, kc, rfl⟩ := hS.lit
  have fr1 : Fr F w w1 := (((Fr.refl (fun _ => False) w).alloc _).trans hF1 (fun _ _ h => h)).mono (fun _ _ h => h.elim)
  have hB1 := hB.fr ((Fr.refl (fun _ => False) w).alloc _ |>.trans hF1 (fun _ _ h => h)) (fun h => h)
  have i1 : w1.im hb = some (mv heldV Lh) := hF1.im (im_alloc h1 _) (fun h => h)
  have i2 : w1.im ob = some (mv (Value.int .i64) Lo) := hF1.im (im_alloc h3 _) (fun h => h)
  have hst : TickAt F w w1 b hb ob m (.slice ka m.held.length kc) 0 (.slice none 0 0) w1 :=
    ⟨Sl.nil _ _ _, by simp [Value.ownBlock], by simp [goneOf], ⟨Lh, Lo, i1, by simpa [heldAt] using h2, i2, by simpa [overOf] using h4⟩, hB1, hS, fr1, Nat.le_refl _⟩
  have hkb : ∀ g, Value.ownBlock (.slice ka m.held.length kc) = some g → g < w1.heap.size := fun g hg => hS.lt hg
  have hkb0 : ∀ g, Value.ownBlock (.slice ka m.held.length kc) = some g → w.heap.size ≤ g := fun g hg => by have := hG g hg; simp at this; omega
  have hszw : w.heap.size ≤ w1.heap.size := fr1.size
  have hbb := hB.lt
  have hbm := im_lt h1
  have hbo := im_lt h3
  clear hS hG hN hF1 h1 h2 h3 h4 i1 i2 hB1 c1 C2 fr1 hB hlL
  go_wp2
  go_loopw [2, 4, 5, 15] (fun gv _ _ i wr => ∃ k : Nat, k ≤ m.held.length ∧ i = .int .i64 k ∧ TickAt F w w1 b hb ob m (.slice ka m.held.length kc) k gv wr)
    (fun _ _ _ i _ => m.held.length - (intOf i).toNat)
  case atStart => exact ⟨0, Nat.zero_le _, rfl, hst⟩
  case round =>
    obtain ⟨k, hk, rfl, hS, hG, hN, ⟨Lh', Lo', i1, i2, i3, i4⟩, hB, hK, hF, hsz⟩ := hrel
    have hk0 : (0 : Int) ≤ (k : Int) := by omega
    by_cases hlt : k < m.held.length
    · obtain ⟨⟨t, j, l⟩, hx⟩ : ∃ x, m.held[k]? = some x := ⟨_, List.getElem?_eq_getElem hlt⟩
      have hxo := hok.held _ (List.mem_of_getElem? hx)
      simp only [] at hxo
      obtain ⟨ht1, ht2, hj1, hj2, hl1, hl2⟩ := hxo
      have hgt : get Lh' t (0, 0) = (j, l) := by
        rw [get_perm i2 (srt_heldAt hs k).nodup]; exact get_heldAt hs hx _
      have hth : has Lh' t = true := by rw [has_perm i2]; exact has_heldAt hx
      obtain ⟨-, h0⟩ | ⟨g, off, cap, hv2, hg, hcap, hmx⟩ := hK.shape
      · omega
      have hva : ka = some ⟨g, off, none⟩ ∧ kc = cap := by cases hv2; exact ⟨rfl, rfl⟩
      obtain ⟨rfl, rfl⟩ := hva
      clear hv2
      have hcell := hK.cells rfl k (.int .i64 t) (by rw [List.getElem?_map, List.getElem?_map, hx]; rfl)
      have k1 := hB.get (i := 1) rfl
      have k2 := hB.get (i := 2) rfl
      have np := hB.lt
      have nh := im_lt i1
      have no := im_lt i3
      unfold maxLen at hmx
      have hlt' : (k : Int) < (m.held.length : Int) := by omega
      have hm16 : m.held.length ≤ 65535 := hlen
      have hne' : ob ≠ hb := fun e => hne e.symm
      have H4 : Hid (∀ j, get Lo' j 0 = overOf m.over (m.held.take k) j) := i4
      clear i4
      obtain ⟨ga, gc, rfl⟩ := hS.lit
      have hkd : ∀ q, Value.ownBlock (.slice (some ⟨g, off, none⟩) m.held.length kc) = some q → q ≠ hb ∧ q ≠ ob ∧ Value.ownBlock (.slice ga (goneOf (List.take k m.held)).length gc) ≠ some q := fun q hq => by
        have h1 := hkb q hq; have h2 := hkb0 q hq
        exact ⟨by omega, by omega, fun e => by have := hG q e; omega⟩
      have hSX : ∀ W, Fr (fun k => k = hb ∨ k = ob) wr W → Sl W 3 1 (.slice ga (goneOf (List.take k m.held)).length gc) (goneOf (List.take k m.held)).length ((goneOf (List.take k m.held)).map (Value.int .i64)) := fun W hW => hS.fr hW (by rintro g hg (h | h) <;> (have := hG g hg; omega))
      have hbd : b ≠ hb ∧ b ≠ ob ∧ Value.ownBlock (.slice ga (goneOf (List.take k m.held)).length gc) ≠ some b := ⟨hB.ne_map i1, hB.ne_map i3, fun e => by have := hG b e; omega⟩
      have i1' := i1
      have i3' := i3
      have HP := i2
      by_cases hl : 1 < l
      · go_wp2
        go_region
        go_wp2
        go_roundw
        case rel =>
          refine ⟨k + 1, by omega, by go_num, ?_⟩
          have hf0 : Fr (fun k => k = hb ∨ k = ob) wr ((wr.alloc (.cells #[.int .i64 j, .int .i64 (l - 1)] 164)).mput hb t (.agg #[.int .i64 j, .int .i64 (l - 1)])).drew := (((Fr.refl _ wr).alloc _).mput (fun _ => .inl rfl) t _).drew
          have hgo' : goneOf (m.held.take (k + 1)) = goneOf (m.held.take k) := by rw [goneOf_take hx, if_pos hl, List.append_nil]
          have hf := hf0.mono (S' := fun q => q = hb ∨ q = ob ∨ Value.ownBlock (.slice ga (goneOf (List.take k m.held)).length gc) = some q) (fun k _ h => h.imp id .inl)
          refine TickAt.step hB hK hkd hF hsz hszw f2 f3 hG hbd hf (Lh2 := put Lh' t (j, l - 1)) (Lo2 := Lo') ?_ ?_ ?_ ?_ ?_ ?_ hG
          · rw [im_drew, im_mput (im_alloc i1 _), ← put_mv]; rfl
          · refine (put_perm HP (srt_heldAt hs k) t _).trans ?_
            rw [putS_old (srt_heldAt hs k) (has_heldAt hx), heldAt_keep hs hx hl]
          · rw [im_drew, im_mput_ne hne']; exact im_alloc i3 _
          · intro i; rw [H4.out i, overOf_take m.over hx i, if_neg (by omega)]
          · rw [hgo']; exact hSX _ hf0
          · rw [hgo']; exact hN
        case measure => simp [intOf]; omega
      · obtain rfl : l = 1 := by omega
        have hgo' : goneOf (m.held.take (k + 1)) = goneOf (m.held.take k) ++ [t] := by rw [goneOf_take hx, if_neg hl]
        have hgl : ((goneOf (m.held.take k)).length : Int) ≤ 65535 := by
          have h1 : (goneOf (m.held.take k)).length ≤ (m.held.take k).length := by simp only [goneOf, List.length_map]; exact List.length_filter_le _ _
          rw [List.length_take] at h1; omega
        have HG : Hid (goneOf (m.held.take (k + 1)) = goneOf (m.held.take k) ++ [t]) := hgo'
        clear hgo'
        go_wp2
        go_region
        go_wp2
        go_region
        go_wp2_with (at_builtin; refine wpList_append_sl _ rfl _ _ _ rfl el_int (v := .slice ga (goneOf (List.take k m.held)).length gc) rfl (by refine hSX _ ?_; repeat first | exact Fr.refl _ _ | refine Fr.drew ?_ | refine Fr.alloc ?_ _ | refine Fr.mput ?_ (fun _ => by simp) _ _ | refine Fr.mdel ?_ (fun _ => by simp) _) rfl (by exact (rd_one _ _ _ (by simp))) (by rfl) (by simp [Value.oneCell']) (by omega) (by omega) ?_; intro v' w2 hs2 hg2 hb2 hn2; clear hn2)
        refine ⟨⟨k + 1, by omega, by go_num, ?_⟩, by simp [intOf]; omega⟩
        obtain ⟨W, hW⟩ : ∃ W, W = ((((wr.alloc (.cells #[.int .i64 j, .int .i64 0] 164)).mput hb t (.agg #[.int .i64 j, .int .i64 0])).mdel hb t).mput ob t (.int .i64 (max (get Lo' t 0) j))) := ⟨_, rfl⟩
        have hf0 : Fr (fun k => k = hb ∨ k = ob) wr W := by rw [hW]; exact ((((Fr.refl _ wr).alloc _).mput (fun _ => .inl rfl) _ _).mdel (fun _ => .inl rfl) _).mput (fun _ => .inr rfl) _ _
        have j1 : W.im hb = some (mv heldV (del Lh' t)) := by
          rw [hW, im_mput_ne hne, im_mdel (im_mput (im_alloc i1 _) _ _), ← heldV_mk, put_mv, del_mv, del_put]
        have j2 : W.im ob = some (mv (Value.int .i64) (put Lo' t (max (get Lo' t 0) j))) := by
          rw [hW, im_mput (by rw [im_mdel_ne hne', im_mput_ne hne']; exact im_alloc i3 _), put_mv]
        rw [← hW] at hg2 hb2
        have hf1 : Fr (fun q => q = hb ∨ q = ob ∨ Value.ownBlock (.slice ga (goneOf (List.take k m.held)).length gc) = some q) wr w2 :=
          (((hf0.alloc _).drew.drew).mono (S' := fun q => q = hb ∨ q = ob ∨ Value.ownBlock (.slice ga (goneOf (List.take k m.held)).length gc) = some q) (fun _ _ h => h.imp id .inl)).grown hg2 (fun _ _ h => .inr (.inr h))
        have hgd : ∀ x, (x = hb ∨ x = ob) → Value.ownBlock (.slice ga (goneOf (List.take k m.held)).length gc) ≠ some x := fun x hx e => by have := hG x e; omega
        refine TickAt.step hB hK hkd hF hsz hszw f2 f3 hG hbd hf1 (Lh2 := del Lh' t) (Lo2 := put Lo' t (max (get Lo' t 0) j)) (im_grown (by rw [im_drew, im_drew]; exact im_alloc j1 _) hg2 (hgd _ (.inl rfl))) ?_ (im_grown (by rw [im_drew, im_drew]; exact im_alloc j2 _) hg2 (hgd _ (.inr rfl))) ?_ ?_ ?_ ?_
        · exact (del_perm HP t).trans (by rw [heldAt_gone hs hx (by omega)])
        · intro i
          rw [get_put, overOf_take m.over hx i, H4.out, H4.out]
          by_cases e : t = i
          · subst e; simp
          · simp [e]
        · rw [HG.out]; simpa using hs2
        · obtain ⟨g2, o2, c2, rfl, -⟩ := hs2.form (by omega)
          rw [HG.out]; simp
        · intro q hq
          rcases hb2 with e | e
          · exact hG q (e ▸ hq)
          · rw [e] at hq; cases hq; have := hf0.size; simp; omega
    · obtain rfl : k = m.held.length := by omega
      clear hk
      rw [List.take_length] at hS hN i4
      go_wp2
      go_ret
      refine ⟨_, rfl, hS, fun g hg => Nat.le_trans hszw (hG g hg), hN, ⟨⟨hb, ob, Lh', Lo', hB, f1, f2, f3, hne, i1, by have := i2; simp [heldAt] at this; exact this, i3, i4⟩, srt_step hs, bd.fr hF⟩, hF⟩

end Go.Proofs.YtkjggglmemafgaaGreat
