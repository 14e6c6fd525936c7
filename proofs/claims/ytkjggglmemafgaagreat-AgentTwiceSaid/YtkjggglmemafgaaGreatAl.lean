import Derived.Test.YtkjggglmemafgaaGreatIMap
namespace Go.Proofs.YtkjggglmemafgaaGreat

/-! ### sorted association lists; a map's entries in any order are a permutation of one -/
def Srt {α : Type} (A : List (Int × α)) : Prop := A.Pairwise fun p q => p.1 < q.1
def putS {α : Type} : List (Int × α) → Int → α → List (Int × α)
  | [], k, v => [(k, v)]
  | (a, x) :: A, k, v => if k < a then (k, v) :: (a, x) :: A else if k = a then (k, v) :: A else (a, x) :: putS A k v

section
variable {α : Type}

theorem get_nil (k : Int) (z : α) : get ([] : List (Int × α)) k z = z := rfl
theorem get_cons (p : Int × α) (L : List (Int × α)) (k : Int) (z : α) : get (p :: L) k z = if p.1 = k then p.2 else get L k z := by
  simp only [get, List.find?_cons]
  by_cases c : p.1 = k
  · simp [c]
  · have : (p.1 == k) = false := by simp [c]
    simp [c, this]
theorem has_nil (k : Int) : has ([] : List (Int × α)) k = false := rfl
theorem has_cons (p : Int × α) (L : List (Int × α)) (k : Int) : has (p :: L) k = (p.1 == k || has L k) := rfl
theorem has_iff {L : List (Int × α)} {k : Int} : has L k = true ↔ k ∈ L.map (·.1) := by
  simp only [has, List.any_eq_true, beq_iff_eq, List.mem_map]
theorem has_false {L : List (Int × α)} {k : Int} : has L k = false ↔ k ∉ L.map (·.1) := by
  rw [← has_iff]; simp
theorem get_of_not {L : List (Int × α)} {k : Int} (h : has L k = false) (z : α) : get L k z = z := by
  induction L with
  | nil => rfl
  | cons p L ih =>
    rw [has_cons] at h; simp at h
    rw [get_cons, if_neg h.1, ih h.2]
theorem get_of_mem {L : List (Int × α)} (hn : (L.map (·.1)).Nodup) {k : Int} {v : α} (h : (k, v) ∈ L) (z : α) : get L k z = v := by
  induction L with
  | nil => cases h
  | cons p L ih =>
    simp only [List.map_cons, List.nodup_cons] at hn
    rw [get_cons]
    rcases List.mem_cons.1 h with rfl | h
    · simp
    · rw [if_neg, ih hn.2 h]
      rintro e; exact hn.1 (by rw [e]; exact List.mem_map_of_mem h)
theorem mem_of_has {L : List (Int × α)} {k : Int} (h : has L k = true) (z : α) : (k, get L k z) ∈ L := by
  induction L with
  | nil => cases h
  | cons p L ih =>
    rw [has_cons] at h
    rw [get_cons]
    by_cases c : p.1 = k
    · simp [c]; left; obtain ⟨a, b⟩ := p; simp at c; simp [c]
    · have : (p.1 == k) = false := by simp [c]
      rw [this] at h; simp at h
      rw [if_neg c]; exact List.mem_cons_of_mem _ (ih h)
theorem get_perm {L A : List (Int × α)} (h : L.Perm A) (hn : (A.map (·.1)).Nodup) (k : Int) (z : α) : get L k z = get A k z := by
  have hl : (L.map (·.1)).Nodup := (h.map (·.1)).nodup_iff.2 hn
  cases hh : has L k with
  | false =>
    have : has A k = false := by
      rw [has_false] at hh ⊢; exact fun hm => hh ((h.map (·.1)).mem_iff.2 hm)
    rw [get_of_not hh, get_of_not this]
  | true =>
    exact (get_of_mem hn (h.mem_iff.1 (mem_of_has hh z)) z).symm
theorem has_perm {L A : List (Int × α)} (h : L.Perm A) (k : Int) : has L k = has A k := by
  rw [Bool.eq_iff_iff, has_iff, has_iff]; exact (h.map (·.1)).mem_iff

theorem Srt.nodup {A : List (Int × α)} (h : Srt A) : (A.map (·.1)).Nodup := by
  have : (A.map (·.1)).Pairwise (· < ·) := List.pairwise_map.2 h
  exact this.imp fun h => by omega

theorem del_nil (k : Int) : del ([] : List (Int × α)) k = [] := rfl
theorem del_cons (p : Int × α) (L : List (Int × α)) (k : Int) : del (p :: L) k = if p.1 = k then del L k else p :: del L k := by
  simp only [del, List.filter_cons]
  by_cases c : p.1 = k <;> simp [c]
theorem mem_del {L : List (Int × α)} {k : Int} {p : Int × α} : p ∈ del L k ↔ p ∈ L ∧ p.1 ≠ k := by
  simp [del, List.mem_filter]
theorem del_perm {L A : List (Int × α)} (h : L.Perm A) (k : Int) : (del L k).Perm (del A k) := h.filter _
theorem Srt.del {A : List (Int × α)} (h : Srt A) (k : Int) : Srt (del A k) := h.filter _

theorem putS_keys (A : List (Int × α)) (k : Int) (v : α) : ∀ p ∈ putS A k v, p = (k, v) ∨ p ∈ A := by
  induction A with
  | nil => intro p hp; simp [putS] at hp; exact .inl hp
  | cons q A ih =>
    obtain ⟨a, x⟩ := q
    intro p hp
    simp only [putS] at hp
    split at hp
    · rcases List.mem_cons.1 hp with rfl | hp
      · exact .inl rfl
      · exact .inr hp
    · split at hp
      · rcases List.mem_cons.1 hp with rfl | hp
        · exact .inl rfl
        · exact .inr (List.mem_cons_of_mem _ hp)
      · rcases List.mem_cons.1 hp with rfl | hp
        · exact .inr (List.mem_cons_self ..)
        · rcases ih p hp with h | h
          · exact .inl h
          · exact .inr (List.mem_cons_of_mem _ h)

theorem Srt.putS {A : List (Int × α)} (h : Srt A) (k : Int) (v : α) : Srt (putS A k v) := by
  induction A with
  | nil => simp [Srt, Go.Proofs.YtkjggglmemafgaaGreat.putS]
  | cons q A ih =>
    obtain ⟨a, x⟩ := q
    simp only [Srt, List.pairwise_cons] at h
    simp only [Go.Proofs.YtkjggglmemafgaaGreat.putS]
    split
    · next c =>
      refine List.pairwise_cons.2 ⟨?_, List.pairwise_cons.2 h⟩
      intro p hp
      rcases List.mem_cons.1 hp with rfl | hp
      · exact c
      · have := h.1 p hp; simp at this ⊢; omega
    · split
      · next c =>
        subst c; exact List.pairwise_cons.2 h
      · next c1 c2 =>
        refine List.pairwise_cons.2 ⟨?_, ih h.2⟩
        intro p hp
        rcases putS_keys A k v p hp with rfl | hp
        · simp; omega
        · exact h.1 p hp

theorem putS_perm_new {A : List (Int × α)} {k : Int} (h : has A k = false) (v : α) : (putS A k v).Perm ((k, v) :: A) := by
  induction A with
  | nil => exact List.Perm.refl _
  | cons q A ih =>
    obtain ⟨a, x⟩ := q
    rw [has_cons] at h; simp at h
    simp only [putS]
    split
    · exact List.Perm.refl _
    · rw [if_neg (fun e => h.1 e.symm)]
      exact ((ih h.2).cons _).trans (List.Perm.swap _ _ _)

theorem putS_old {A : List (Int × α)} (hs : Srt A) {k : Int} (h : has A k = true) (v : α) : putS A k v = A.map (fun p => if p.1 = k then (k, v) else p) := by
  induction A with
  | nil => cases h
  | cons q A ih =>
    obtain ⟨a, x⟩ := q
    simp only [Srt, List.pairwise_cons] at hs
    simp only [putS, List.map_cons]
    have hne : ∀ p ∈ A, a < p.1 := hs.1
    by_cases c : a = k
    · subst c
      rw [if_neg (by omega), if_pos rfl, if_pos rfl]
      congr 1
      symm
      rw [List.map_congr_left (g := id), List.map_id]
      intro p hp; have := hne p hp; simp; intro h; omega
    · have hA : has A k = true := by
        rw [has_cons] at h; have : (a == k) = false := by simp [c]
        simpa [this] using h
      obtain ⟨p, hp, hk⟩ := List.mem_map.1 (has_iff.1 hA)
      have hlt := hne p hp
      rw [if_neg (by omega), if_neg (by omega), if_neg c, ih hs.2 hA]

theorem put_perm {L A : List (Int × α)} (h : L.Perm A) (hs : Srt A) (k : Int) (v : α) : (put L k v).Perm (putS A k v) := by
  unfold put
  cases hh : has L k with
  | true =>
    rw [if_pos rfl, putS_old hs (by rw [← has_perm h]; exact hh)]
    exact h.map _
  | false =>
    rw [if_neg (by simp)]
    refine List.Perm.trans ?_ (putS_perm_new (by rw [← has_perm h]; exact hh) v).symm
    exact (List.perm_append_comm).trans (h.cons _)

theorem get_putS {A : List (Int × α)} (hs : Srt A) (k j : Int) (v z : α) : get (putS A k v) j z = if k = j then v else get A j z := by
  induction A with
  | nil => simp only [putS, get_cons]
  | cons q A ih =>
    obtain ⟨a, x⟩ := q
    simp only [Srt, List.pairwise_cons] at hs
    simp only [putS]
    split
    · rw [get_cons]
    · split
      · next c => subst c; simp only [get_cons]; split <;> rfl
      · next c1 c2 =>
        simp only [get_cons, ih hs.2]
        by_cases e : a = j
        · subst e; rw [if_pos rfl, if_neg c2, if_pos rfl]
        · simp [e]
theorem get_del (L : List (Int × α)) (k j : Int) (z : α) : get (del L k) j z = if k = j then z else get L j z := by
  induction L with
  | nil => simp [del_nil, get_nil]
  | cons p L ih =>
    rw [del_cons]
    by_cases c : p.1 = k
    · rw [if_pos c, ih, get_cons]
      by_cases e : k = j
      · simp [e]
      · rw [if_neg e, if_neg e, if_neg (by omega)]
    · rw [if_neg c, get_cons, get_cons, ih]
      by_cases e : p.1 = j
      · rw [if_pos e, if_neg (by omega), if_pos e]
      · simp [e]
theorem get_put (L : List (Int × α)) (k j : Int) (v z : α) : get (put L k v) j z = if k = j then v else get L j z := by
  unfold put
  split
  · next h =>
    induction L with
    | nil => cases h
    | cons p L ih =>
      simp only [List.map_cons, get_cons]
      by_cases c : p.1 = k
      · simp only [c, if_true]
        by_cases e : k = j
        · simp [e]
        · simp only [e, if_false]
          by_cases h2 : has L k = true
          · rw [ih h2, if_neg e]
          · rw [List.map_congr_left (g := id), List.map_id]
            intro q hq; simp only [id]; rw [if_neg]; intro h3; exact h2 (has_iff.2 (by rw [← h3]; exact List.mem_map_of_mem hq))
      · rw [has_cons] at h; have h2 : (p.1 == k) = false := by simp [c]
        simp [h2] at h
        simp only [c, if_false, ih h]
        by_cases e : k = j
        · subst e; simp [c]
        · simp [e]
  · next h0 =>
    have h : has L k = false := by simpa using h0
    clear h0
    induction L with
    | nil => simp only [List.nil_append, get_cons]
    | cons p L ih =>
      rw [has_cons] at h; simp at h
      simp only [List.cons_append, get_cons, ih h.2]
      by_cases e : p.1 = j
      · rw [if_pos e, if_neg (by omega), if_pos e]
      · simp [e]
theorem has_put (L : List (Int × α)) (k j : Int) (v : α) : has (put L k v) j = (k == j || has L j) := by
  unfold put
  split
  · next h =>
    have hk : (L.map (fun p => if p.1 = k then (k, v) else p)).map (·.1) = L.map (·.1) := by
      rw [List.map_map]; apply List.map_congr_left; intro p _; simp only [Function.comp]; split <;> simp_all
    rw [Bool.eq_iff_iff, has_iff, hk, ← has_iff]
    by_cases e : k = j
    · subst e; simp [h]
    · simp [e]
  · simp [has, Bool.or_comm]
theorem has_del (L : List (Int × α)) (k j : Int) : has (del L k) j = (!(k == j) && has L j) := by
  induction L with
  | nil => simp [del_nil, has_nil]
  | cons p L ih =>
    rw [del_cons]
    by_cases c : p.1 = k
    · rw [if_pos c, ih, has_cons]
      by_cases e : k = j
      · simp [e]
      · have : (p.1 == j) = false := by simpa using (by omega : ¬ p.1 = j)
        simp [this]
    · rw [if_neg c, has_cons, has_cons, ih]
      by_cases e : p.1 = j
      · have hk : ¬ k = j := by omega
        subst e
        simp [hk]
      · have h2 : (p.1 == j) = false := by simpa using e
        simp only [h2, Bool.false_or]
end
end Go.Proofs.YtkjggglmemafgaaGreat
