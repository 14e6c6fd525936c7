import Derived.Test.YtkjggglmemafgaaGreatPoolC
namespace Go.Proofs.YtkjggglmemafgaaGreat
open Go Go.RowKit

/-! ### the pool's invariant: plain -/
section
variable {bufs : List (List Sp)} {free : List Int} {E : List (Int × Chain)} {P : PoolS}

theorem bufOf_set (bufs : List (List Sp)) (i : Nat) (l : List Sp) (hi : i < bufs.length) (x : Int) (hx : 0 ≤ x) : bufOf (bufs.set i l) x = if x = (i : Int) then l else bufOf bufs x := by
  obtain ⟨k, rfl⟩ := Int.eq_ofNat_of_zero_le hx
  simp only [bufOf, Int.toNat_natCast, List.getD_eq_getElem?_getD]
  by_cases e : k = i
  · subst e; simp [hi]
  · rw [List.getElem?_set_ne (fun h => e h.symm), if_neg (by omega)]
theorem spansOf_append (bufs : List (List Sp)) (a b : List Int) : spansOf bufs (a ++ b) = spansOf bufs a ++ spansOf bufs b := by simp [spansOf]
theorem spansOf_one (bufs : List (List Sp)) (i : Int) : spansOf bufs [i] = bufOf bufs i := by simp [spansOf]
theorem spansOf_set (bufs : List (List Sp)) (i : Nat) (l : List Sp) (hi : i < bufs.length) (ids : List Int) (h0 : ∀ x ∈ ids, 0 ≤ x) (hn : (i : Int) ∉ ids) : spansOf (bufs.set i l) ids = spansOf bufs ids := by
  unfold spansOf
  induction ids with
  | nil => rfl
  | cons a ids ih =>
    simp only [List.flatMap_cons]
    rw [bufOf_set bufs i l hi a (h0 a (List.mem_cons_self ..)), if_neg (by rintro rfl; exact hn (List.mem_cons_self ..)),
      ih (fun x hx => h0 x (List.mem_cons_of_mem _ hx)) (fun h => hn (List.mem_cons_of_mem _ h))]

theorem full_len (bufs : List (List Sp)) (pre : List Int) (h : ∀ x ∈ pre, (bufOf bufs x).length = 3) : (spansOf bufs pre).length = 3 * pre.length := by
  induction pre with
  | nil => rfl
  | cons a pre ih =>
    simp only [spansOf, List.flatMap_cons, List.length_append, List.length_cons] at ih ⊢
    rw [h a (List.mem_cons_self ..), ih (fun x hx => h x (List.mem_cons_of_mem _ hx))]; omega

theorem chainOk_len (hb : ∀ (i : Nat) l, bufs[i]? = some l → l.length ≤ 3) {ids : List Int} (h : ChainOk bufs ids) : bufsN (spansOf bufs ids) = ids.length := by
  obtain ⟨pre, i, rfl, h1, h2⟩ := h
  have h3 : (bufOf bufs i).length ≤ 3 := by
    unfold bufOf; rw [List.getD_eq_getElem?_getD]
    cases hh : bufs[i.toNat]? with
    | none => simp
    | some l => exact hb _ l hh
  rw [bufsN, spansOf_append, spansOf_one, List.length_append, full_len bufs pre h1]
  simp; omega

theorem PInv.used (h : PInv bufs free E P) (hb : ∀ (i : Nat) l, bufs[i]? = some l → l.length ≤ 3) : P.used + free.length = P.n := by
  have h1 : P.used = (E.map fun x => x.2.2.length).sum := by
    unfold PoolS.used
    rw [← (h.abs.map fun x => bufsN x.2).sum_nat, List.map_map]
    congr 1
    apply List.map_congr_left
    intro x hx
    exact chainOk_len hb (h.ok x hx)
  have h2 := h.part.length_eq
  simp only [List.length_append, List.length_flatMap, List.length_map, List.length_range] at h2
  omega

theorem PInv.nd (h : PInv bufs free E P) : (free ++ E.flatMap (·.2.2)).Nodup := by
  rw [h.part.nodup_iff]
  exact List.pairwise_map.2 (List.nodup_range.imp (fun {a b} hab e => hab (Int.ofNat.inj e)))

theorem PInv.nonneg (h : PInv bufs free E P) {x : Int × Chain} (hx : x ∈ E) : ∀ i ∈ x.2.2, 0 ≤ i := by
  intro i hi
  have : i ∈ free ++ E.flatMap (·.2.2) := List.mem_append_right _ (List.mem_flatMap.2 ⟨_, hx, hi⟩)
  rw [h.part.mem_iff] at this
  simp at this
  obtain ⟨a, ha, rfl⟩ := this
  simp

theorem pw_two {α : Type} {R : α → α → Prop} (hs : ∀ a b, R a b → R b a) {L : List α} (h : L.Pairwise R) {a b : α} (ha : a ∈ L) (hb : b ∈ L) (hab : a ≠ b) : R a b := by
  induction L with
  | nil => cases ha
  | cons x L ih =>
    rw [List.pairwise_cons] at h
    rcases List.mem_cons.1 ha with e1 | ha' <;> rcases List.mem_cons.1 hb with e2 | hb'
    · exact absurd (e1.trans e2.symm) hab
    · rw [e1]; exact h.1 _ hb'
    · rw [e2]; exact hs _ _ (h.1 _ ha')
    · exact ih h.2 ha' hb'

theorem PInv.apart (h : PInv bufs free E P) {t : Int} {i : Int} (hi : i ∈ (get E t noChain).2) {y : Int × Chain} (hy : y ∈ E) (hn : y.1 ≠ t) : i ∉ y.2.2 := by
  cases hh : has E t with
  | false => rw [get_of_not hh] at hi; cases hi
  | true =>
    have hm := mem_of_has hh noChain
    have hp := (List.pairwise_append.1 h.nd).2.1
    rw [List.pairwise_flatMap] at hp
    have := pw_two (R := fun (a b : Int × Chain) => ∀ x ∈ a.2.2, ∀ y ∈ b.2.2, x ≠ y) (fun a b h x hx y hy e => h y hy x hx e.symm) hp.2 hm hy (by rintro rfl; exact hn rfl)
    intro hi2
    exact this i hi i hi2 rfl
theorem PInv.apart_free (h : PInv bufs free E P) {i : Int} (hi : i ∈ free) {y : Int × Chain} (hy : y ∈ E) : i ∉ y.2.2 := by
  intro hi2
  exact (List.pairwise_append.1 h.nd).2.2 i hi i (List.mem_flatMap.2 ⟨y, hy, hi2⟩) rfl

theorem PInv.full_iff (h : PInv bufs free E P) (hb : ∀ (i : Nat) l, bufs[i]? = some l → l.length ≤ 3) (t : Int) :
    ((get P.m t []).length % 3 = 0 → Full bufs (get E t noChain).2) ∧
    (¬ (get P.m t []).length % 3 = 0 → ∃ (pre : List Int) (i : Nat) (l : List Sp), (get E t noChain).2 = pre ++ [(i : Int)] ∧ bufs[i]? = some l ∧ l.length < 3) := by
  rw [← h.get_abs t]
  cases hh : has E t with
  | false => rw [get_of_not hh]; exact ⟨fun _ => .inl rfl, fun h => absurd rfl h⟩
  | true =>
    have hm := mem_of_has hh noChain
    obtain ⟨pre, i, hids, h1, h2⟩ := h.ok _ hm
    simp only [] at hids
    have hi := h.mem_ids (t := t) (i := i) (by rw [hids]; simp)
    obtain ⟨hi0, hil⟩ := hi
    obtain ⟨k, rfl⟩ := Int.eq_ofNat_of_zero_le hi0
    simp only [Int.toNat_natCast] at hil
    obtain ⟨l, hl⟩ : ∃ l, bufs[k]? = some l := ⟨_, List.getElem?_eq_getElem hil⟩
    have hbl : bufOf bufs (k : Int) = l := by simp [bufOf, hl]
    have h3 := hb k l hl
    rw [hids, spansOf_append, spansOf_one, List.length_append, full_len bufs pre h1, hbl]
    rw [hbl] at h2
    constructor
    · intro he; exact .inr ⟨pre, k, l, rfl, hl, by omega⟩
    · intro he; exact ⟨pre, k, l, rfl, hl, by omega⟩

theorem map_put_old {E : List (Int × Chain)} (hnd : (E.map (·.1)).Nodup) {t : Int} (hh : has E t = true) (f g : Chain → List Sp) (hne : ∀ y ∈ E, y.1 ≠ t → g y.2 = f y.2) (v : List Sp) (hv : g (get E t noChain) = v) :
    (E.map fun x => (x.1, g x.2)) = put (E.map fun x => (x.1, f x.2)) t v := by
  have : has (E.map fun x => (x.1, f x.2)) t = true := by rw [← hh]; exact has_mv f E t
  rw [put, if_pos this, List.map_map]
  apply List.map_congr_left
  intro y hy
  simp only [Function.comp]
  by_cases c : y.1 = t
  · rw [if_pos c, ← hv, ← c]
    rw [get_of_mem hnd (v := y.2) (by exact hy)]
  · rw [if_neg c, hne y hy c]

/-- a span more in the chain's last buffer -/
theorem PInv.room (h : PInv bufs free E P) {t : Int} (ht : 1 ≤ t ∧ t ≤ 65535) {pre : List Int} {i : Nat} {l : List Sp} (hids : (get E t noChain).2 = pre ++ [(i : Int)]) (hl : bufs[i]? = some l) (x : Sp) :
    PInv (bufs.set i (l ++ [x])) free E { P with m := putS P.m t (get P.m t [] ++ [x]) } := by
  have hil : i < bufs.length := (List.getElem?_eq_some_iff.1 hl).1
  have hh : has E t = true := by
    cases hh : has E t with
    | true => rfl
    | false => rw [get_of_not hh] at hids; simp [noChain] at hids
  have hbl : bufOf bufs (i : Int) = l := by simp [bufOf, hl]
  have hoth : ∀ y ∈ E, y.1 ≠ t → spansOf (bufs.set i (l ++ [x])) y.2.2 = spansOf bufs y.2.2 := fun y hy hn =>
    spansOf_set bufs i _ hil _ (h.nonneg hy) (h.apart (t := t) (by rw [hids]; simp) hy hn)
  have hm := mem_of_has hh noChain
  have hpre : (i : Int) ∉ pre := by
    have hp := (List.pairwise_append.1 h.nd).2.1
    rw [List.pairwise_flatMap] at hp
    have := hp.1 _ hm
    simp only [hids] at this
    intro hi
    exact (List.pairwise_append.1 this).2.2 _ hi _ (List.mem_singleton.2 rfl) rfl
  have hpre0 : ∀ z ∈ pre, 0 ≤ z := fun z hz => h.nonneg hm z (by simp only [hids]; exact List.mem_append_left _ hz)
  have hnew : spansOf (bufs.set i (l ++ [x])) (get E t noChain).2 = get P.m t [] ++ [x] := by
    rw [← h.get_abs t, hids, spansOf_append, spansOf_append, spansOf_one, spansOf_one, spansOf_set bufs i _ hil pre hpre0 hpre, bufOf_set bufs i _ hil _ (by omega), if_pos rfl, hbl, List.append_assoc]
  refine ⟨by rw [List.length_set]; exact h.len, h.small, h.part, h.nodup, ?_, ?_, h.srt.putS _ _, ?_⟩
  · intro y hy
    by_cases c : y.1 = t
    · have hy2 : y.2 = get E t noChain := by rw [← c]; exact (get_of_mem h.nodup (v := y.2) hy noChain).symm
      obtain ⟨pre', i', hids', h1, h2⟩ := h.ok y hy
      rw [hy2, hids] at hids'
      obtain ⟨rfl, e⟩ := List.append_inj' hids' rfl
      simp at e; subst e
      rw [hy2, hids]
      refine ⟨pre, i, rfl, fun z hz => ?_, ?_⟩
      · rw [bufOf_set bufs i _ hil z (hpre0 z hz), if_neg (by rintro rfl; exact hpre hz)]; exact h1 z hz
      · rw [bufOf_set bufs i _ hil _ (by omega), if_pos rfl]; simp
    · obtain ⟨pre', i', hids', h1, h2⟩ := h.ok y hy
      have hap := h.apart (t := t) (i := i) (by rw [hids]; simp) hy c
      have hnn := h.nonneg hy
      rw [hids'] at hap hnn ⊢
      refine ⟨pre', i', rfl, fun z hz => ?_, ?_⟩
      · rw [bufOf_set bufs i _ hil z (hnn z (List.mem_append_left _ hz)), if_neg (by rintro rfl; exact hap (List.mem_append_left _ hz))]; exact h1 z hz
      · rw [bufOf_set bufs i _ hil _ (hnn i' (by simp)), if_neg (by rintro rfl; exact hap (by simp))]; exact h2
  · rw [map_put_old h.nodup hh (fun c => spansOf bufs c.2) (fun c => spansOf (bufs.set i (l ++ [x])) c.2) hoth _ hnew]
    exact put_perm h.abs h.srt t _
  · intro y hy
    rcases putS_keys P.m t _ y hy with rfl | hy
    · exact ht
    · exact h.keys y hy

/-- .. in a new one -/
theorem PInv.fresh {a : Nat} {rest : List Int} (h : PInv bufs ((a : Int) :: rest) E P) (hb : ∀ (i : Nat) l, bufs[i]? = some l → l.length ≤ 3) {t : Int} (ht : 1 ≤ t ∧ t ≤ 65535) (hfull : Full bufs (get E t noChain).2) (v' : Value) (x : Sp) :
    PInv ((bufs.set a []).set a ([] ++ [x])) rest (put E t (v', (get E t noChain).2 ++ [(a : Int)])) { P with m := putS P.m t (get P.m t [] ++ [x]) } := by
  have ha := h.mem_free (List.mem_cons_self ..)
  simp only [Int.toNat_natCast] at ha
  rw [List.set_set, List.nil_append]
  have hoth : ∀ y ∈ E, spansOf (bufs.set a [x]) y.2.2 = spansOf bufs y.2.2 := fun y hy =>
    spansOf_set bufs a _ ha.2 _ (h.nonneg hy) (h.apart_free (List.mem_cons_self ..) hy)
  have hold : spansOf (bufs.set a [x]) (get E t noChain).2 = get P.m t [] := by
    rw [← h.get_abs t]
    cases hh : has E t with
    | false => rw [get_of_not hh]; rfl
    | true => exact hoth _ (mem_of_has hh noChain)
  have hnew : spansOf (bufs.set a [x]) ((get E t noChain).2 ++ [(a : Int)]) = get P.m t [] ++ [x] := by
    rw [spansOf_append, spansOf_one, hold, bufOf_set bufs a _ ha.2 _ (by omega), if_pos rfl]
  have hfm : ((put E t (v', (get E t noChain).2 ++ [(a : Int)])).flatMap (·.2.2)).Perm ((a : Int) :: E.flatMap (·.2.2)) := by
    unfold put
    cases hh : has E t with
    | false =>
      rw [if_neg (by simp), List.flatMap_append, get_of_not hh]
      simp only [noChain, List.nil_append, List.flatMap_cons, List.flatMap_nil, List.append_nil]
      exact List.perm_append_comm
    | true =>
      rw [if_pos rfl]
      have hnd := h.nodup
      clear hoth hold hnew h hb hfull
      have key : ∀ (c : Chain), has E t = true → (E.map (·.1)).Nodup → get E t noChain = c → ((E.map fun p => if p.1 = t then (t, (v', c.2 ++ [(a : Int)])) else p).flatMap (·.2.2)).Perm ((a : Int) :: E.flatMap (·.2.2)) := by
        clear hh hnd
        induction E with
        | nil => intro c hh; cases hh
        | cons y E ih =>
          intro c hh hnd hc
          simp only [List.map_cons, List.nodup_cons] at hnd
          rw [get_cons] at hc
          by_cases e : y.1 = t
          · rw [if_pos e] at hc
            subst hc
            have hE : (E.map fun p => if p.1 = t then (t, (v', y.2.2 ++ [(a : Int)])) else p) = E := by
              rw [List.map_congr_left (g := id), List.map_id]
              intro q hq
              rw [if_neg]; rfl
              intro h3; exact hnd.1 (by rw [e, ← h3]; exact List.mem_map_of_mem hq)
            rw [List.map_cons, if_pos e, hE, List.flatMap_cons, List.flatMap_cons]
            simp only [List.append_assoc]
            exact List.perm_middle
          · rw [if_neg e] at hc
            have h2 : has E t = true := by
              rw [has_cons] at hh; have : (y.1 == t) = false := by simp [e]
              simpa [this] using hh
            rw [List.map_cons, if_neg e, List.flatMap_cons, List.flatMap_cons]
            exact ((ih c h2 hnd.2 hc).append_left _).trans List.perm_middle
      exact key _ hh hnd rfl
  have hkeys : (put E t (v', (get E t noChain).2 ++ [(a : Int)])).map (·.1) = if has E t then E.map (·.1) else E.map (·.1) ++ [t] := by
    unfold put
    split
    · rw [List.map_map]; apply List.map_congr_left; intro p _; simp only [Function.comp]; split <;> simp_all
    · simp
  refine ⟨by rw [List.length_set]; exact h.len, h.small, ?_, ?_, ?_, ?_, h.srt.putS _ _, ?_⟩
  · exact (hfm.append_left rest).trans (List.perm_middle.trans h.part)
  · rw [hkeys]
    cases hh : has E t with
    | true => exact h.nodup
    | false =>
      rw [if_neg (by simp), List.nodup_append]
      refine ⟨h.nodup, by simp, ?_⟩
      intro p hp q hq
      simp at hq; subst hq
      rintro rfl; exact (has_false.1 hh) hp
  · intro y hy
    rcases mem_put hy with rfl | ⟨hy, hn⟩
    · refine ⟨_, _, rfl, fun z hz => ?_, ?_⟩
      · cases hh : has E t with
        | false => rw [get_of_not hh] at hz; cases hz
        | true =>
          have hm := mem_of_has hh noChain
          rw [bufOf_set bufs a _ ha.2 z (h.nonneg hm z hz), if_neg (by rintro rfl; exact h.apart_free (List.mem_cons_self ..) hm hz)]
          obtain ⟨pre, i, hids, h1, h2⟩ := h.ok _ hm
          simp only [] at hids
          rcases hfull with h0 | ⟨pre2, i2, l2, h0, hl2, h3⟩
          · rw [h0] at hz; cases hz
          · rw [hids] at hz h0
            obtain ⟨rfl, e⟩ := List.append_inj' h0 rfl
            simp at e; subst e
            rcases List.mem_append.1 hz with hz | hz
            · exact h1 z hz
            · simp at hz; subst hz
              have : bufOf bufs (i2 : Int) = l2 := by simp [bufOf, hl2]
              rw [this]; have := hb i2 l2 hl2; omega
      · rw [bufOf_set bufs a _ ha.2 _ (by omega), if_pos rfl]; simp
    · obtain ⟨pre', i', hids', h1, h2⟩ := h.ok y hy
      have hap := h.apart_free (i := a) (List.mem_cons_self ..) hy
      have hnn := h.nonneg hy
      rw [hids'] at hap hnn ⊢
      refine ⟨pre', i', rfl, fun z hz => ?_, ?_⟩
      · rw [bufOf_set bufs a _ ha.2 z (hnn z (List.mem_append_left _ hz)), if_neg (by rintro rfl; exact hap (List.mem_append_left _ hz))]; exact h1 z hz
      · rw [bufOf_set bufs a _ ha.2 _ (hnn i' (by simp)), if_neg (by rintro rfl; exact hap (by simp))]; exact h2
  · have hcalc : ((put E t (v', (get E t noChain).2 ++ [(a : Int)])).map fun y => (y.1, spansOf (bufs.set a [x]) y.2.2)) = put (E.map fun y => (y.1, spansOf bufs y.2.2)) t (get P.m t [] ++ [x]) := by
      have hmv := put_mv (fun c : Chain => spansOf (bufs.set a [x]) c.2) E t (v', (get E t noChain).2 ++ [(a : Int)])
      simp only [hnew] at hmv
      have e1 : mv (fun c : Chain => spansOf (bufs.set a [x]) c.2) E = (E.map fun y => (y.1, spansOf bufs y.2.2)) := by
        apply List.map_congr_left; intro y hy; show (y.1, spansOf (bufs.set a [x]) y.2.2) = _; rw [hoth y hy]
      rw [e1] at hmv
      exact hmv.symm
    rw [hcalc]
    exact put_perm h.abs h.srt t _
  · intro y hy
    rcases putS_keys P.m t _ y hy with rfl | hy
    · exact ht
    · exact h.keys y hy
end
end Go.Proofs.YtkjggglmemafgaaGreat
