import Derived.Test.YtkjggglmemafgaaGreatPool
namespace Go.Proofs.YtkjggglmemafgaaGreat
open Go Go.RowKit
set_option maxRecDepth 20000

def bufOf (bufs : List (List Sp)) (i : Int) : List Sp := bufs.getD i.toNat []
def spansOf (bufs : List (List Sp)) (ids : List Int) : List Sp := ids.flatMap (bufOf bufs)
def spCs (l : List Sp) : List Value := l.flatMap spC
theorem spCs_length (l : List Sp) : (spCs l).length = l.length * 3 := by
  induction l with
  | nil => rfl
  | cons a l ih => simp only [spCs, List.flatMap_cons, List.length_append, List.length_cons] at ih ⊢; rw [ih]; simp [spC]; omega
theorem spCs_append (a b : List Sp) : spCs (a ++ b) = spCs a ++ spCs b := by simp [spCs]
theorem spCs_get (l : List Sp) (j : Nat) (s : Sp) (h : l[j]? = some s) : (spCs l)[j * 3]? = some (.int .i64 s.tr) ∧ (spCs l)[j * 3 + 1]? = some (.int .i64 s.sq) ∧ (spCs l)[j * 3 + 2]? = some (.string s.tx) := by
  induction l generalizing j with
  | nil => simp at h
  | cons a l ih =>
    cases j with
    | zero => simp at h; subst h; simp [spCs, spC]
    | succ j =>
      have := ih j (by simpa using h)
      have e : ∀ k, (spCs (a :: l))[(j + 1) * 3 + k]? = (spCs l)[j * 3 + k]? := by
        intro k
        show (spC a ++ spCs l)[(j + 1) * 3 + k]? = _
        rw [List.getElem?_append_right (by simp [spC]; omega)]
        congr 1; simp [spC]; omega
      exact ⟨by rw [show (j + 1) * 3 = (j + 1) * 3 + 0 by omega, e]; exact this.1, by rw [e]; exact this.2.1, by rw [e]; exact this.2.2⟩
theorem spCs_inv (l : List Sp) (i : Nat) (v : Value) (h : (spCs l)[i]? = some v) : ∃ j s, l[j]? = some s ∧ ((i = j * 3 ∧ v = .int .i64 s.tr) ∨ (i = j * 3 + 1 ∧ v = .int .i64 s.sq) ∨ (i = j * 3 + 2 ∧ v = .string s.tx)) := by
  have hi : i < l.length * 3 := by rw [← spCs_length]; exact (List.getElem?_eq_some_iff.1 h).1
  have hj : i / 3 < l.length := by omega
  obtain ⟨s, hs⟩ : ∃ s, l[i / 3]? = some s := ⟨_, List.getElem?_eq_getElem hj⟩
  obtain ⟨q1, q2, q3⟩ := spCs_get l (i / 3) s hs
  refine ⟨i / 3, s, hs, ?_⟩
  have h3 : i = i / 3 * 3 ∨ i = i / 3 * 3 + 1 ∨ i = i / 3 * 3 + 2 := by omega
  rcases h3 with e | e | e
  · rw [e, q1] at h; exact .inl ⟨e, (Option.some.inj h).symm⟩
  · rw [e, q2] at h; exact .inr (.inl ⟨e, (Option.some.inj h).symm⟩)
  · rw [e, q3] at h; exact .inr (.inr ⟨e, (Option.some.inj h).symm⟩)
theorem spCs_one (l : List Sp) : ∀ u ∈ spCs l, u.oneCell' = true := by
  intro u hu
  simp only [spCs, List.mem_flatMap, spC, List.mem_cons, List.not_mem_nil, or_false] at hu
  obtain ⟨s, _, rfl | rfl | rfl⟩ := hu <;> rfl

theorem bufAt_rd {w : World} {bb : Nat} {C : List Value} {T : TypeId} (hb : Blk w bb T C) {i : Nat} {l : List Sp} (h : BufAt C i l) (c : Nat) : Rd w (.slice (some ⟨bb, i * 10, none⟩) l.length c) l.length (spCs l) := by
  refine .inr ⟨_, _, rfl, fun j u hu => ?_⟩
  rw [add_lit]
  apply hb.get
  obtain ⟨k, s, hs, h1 | h1 | h1⟩ := spCs_inv l j u hu <;> obtain ⟨q1, q2, q3⟩ := h.2.2 k s hs <;> obtain ⟨rfl, rfl⟩ := h1
  · exact q1
  · rw [← Nat.add_assoc]; exact q2
  · rw [← Nat.add_assoc]; exact q3

theorem el_span : El Tryz.prog 51 37 3 32 := El.mk' (z := .agg #[.int .i64 0, .int .i64 0, .string ByteArray.empty]) (by kernel_rfl) (by kernel_rfl) rfl (by decide)

/-- spans that a call answers: a slice of its own -/
def NewSpans (w : World) (l : List Sp) (e : Ending) (w' : World) : Prop :=
  ∃ v, e = .returned v ∧ Sl w' 37 3 v l.length (spCs l) ∧ (∀ g, v.ownBlock = some g → w.heap.size ≤ g) ∧ (v = .slice none 0 0 ↔ l = []) ∧ Fr (fun _ => False) w w'

def Valid (bufs : List (List Sp)) (ids : List Int) : Prop := ids.length ≤ 1000 ∧ ∀ x ∈ ids, 0 ≤ x ∧ x.toNat < bufs.length

theorem spansOf_take (bufs : List (List Sp)) (ids : List Int) (k : Nat) (i : Int) (h : ids[k]? = some i) : spansOf bufs (ids.take (k + 1)) = spansOf bufs (ids.take k) ++ bufOf bufs i := by
  rw [List.take_add_one, h]; simp [spansOf]
theorem spansOf_le (bufs : List (List Sp)) (hb : ∀ (i : Nat) l, bufs[i]? = some l → l.length ≤ 3) (ids : List Int) : (spansOf bufs ids).length ≤ 3 * ids.length := by
  induction ids with
  | nil => simp [spansOf]
  | cons a ids ih =>
    simp only [spansOf, List.flatMap_cons, List.length_append, List.length_cons] at ih ⊢
    have : (bufOf bufs a).length ≤ 3 := by
      unfold bufOf
      rw [List.getD_eq_getElem?_getD]
      cases h : bufs[a.toNat]? with
      | none => simp
      | some l => exact hb _ l h
    omega

set_option maxHeartbeats 1000000 in
theorem pool_spans (F : Nat → Prop) (w : World) (p bb fb mb : Nat) (fv : Value) (C : List Value) (bufs : List (List Sp)) (free : List Int) (E : List (Int × Chain)) (h : PoolR F w p bb fb mb fv C bufs free E) (t : Int)
    (hval : Valid bufs (get E t noChain).2) :
    Calls Tryz.prog 105 #[.pointer (some ⟨p,0,none⟩), .int .i64 t] w (NewSpans w (spansOf bufs (get E t noChain).2)) := by
  have c2 := h.hp.get (i := 2) rfl
  have h1 := h.hm
  have hch := chain_of h t
  obtain ⟨va, vc, hv⟩ : ∃ va vc, (get E t noChain).1 = .slice va (get E t noChain).2.length vc := by
    rcases hch.shape with ⟨hv, h0⟩ | ⟨g, off, cap, hv, _⟩
    · rw [h0]; exact ⟨_, _, hv⟩
    · exact ⟨_, _, hv⟩
  obtain ⟨ids, hids⟩ : ∃ ids, (get E t noChain).2 = ids := ⟨_, rfl⟩
  rw [hids] at hv hch hval ⊢
  have hl3 : ∀ (i : Nat) l, bufs[i]? = some l → l.length ≤ 3 := fun i l hl => (h.hbuf i l hl).1
  have hle := spansOf_le bufs hl3
  obtain ⟨hsm, hin⟩ := hval
  go_enter Tryz.func105, Tryz.ntmps105
  go_wp2
  go_loopw [4, 6, 7, 17] (fun lv _ _ i wr => ∃ k : Nat, k ≤ ids.length ∧ i = .int .i64 k ∧ Sl wr 37 3 lv (spansOf bufs (ids.take k)).length (spCs (spansOf bufs (ids.take k))) ∧ (∀ g, lv.ownBlock = some g → w.heap.size ≤ g) ∧ (lv = .slice none 0 0 ↔ spansOf bufs (ids.take k) = []) ∧ Fr (fun _ => False) w wr)
    (fun _ _ _ i _ => ids.length - (intOf i).toNat)
  case atStart => exact ⟨0, Nat.zero_le _, rfl, by simpa [spansOf, spCs] using Sl.nil _ _ _, by simp [Value.ownBlock], by simp [spansOf], Fr.refl _ _⟩
  case round =>
    obtain ⟨k, hk, rfl, hS, hG, hN, hF⟩ := hrel
    by_cases hlt : k < ids.length
    · obtain ⟨x, hx⟩ : ∃ x, ids[k]? = some x := ⟨_, List.getElem?_eq_getElem hlt⟩
      obtain ⟨hx0, hxl⟩ := hin x (List.mem_of_getElem? hx)
      obtain ⟨i, rfl⟩ := Int.eq_ofNat_of_zero_le hx0
      simp only [Int.toNat_natCast] at hxl
      obtain ⟨l, hl⟩ : ∃ l, bufs[i]? = some l := ⟨_, List.getElem?_eq_getElem hxl⟩
      have hbo : bufOf bufs i = l := by simp [bufOf, hl]
      have hst := spansOf_take bufs ids k i hx
      rw [hbo] at hst
      have hba := h.hbuf i l hl
      have hlt3 := hba.1
      have hC2 := h.hb.fr hF (fun h => h)
      have hP2 := h.hp.fr hF (fun h => h)
      have k0 := hP2.get (i := 0) rfl
      have q9 := hC2.get hba.2.1
      have hrd := bufAt_rd hC2 hba 3
      obtain ⟨-, h0⟩ | ⟨g, off, cap, hv2, hg, hcap, hmx⟩ := hch.shape
      · omega
      have hva : va = some ⟨g, off, none⟩ ∧ vc = cap := by rw [hv] at hv2; cases hv2; exact ⟨rfl, rfl⟩
      obtain ⟨rfl, rfl⟩ := hva
      have hcell := hF.cell_some (hch.cells hv k (.int .i64 i) (by rw [List.getElem?_map, hx]; rfl)) (fun h => h)
      have hsz := hle (ids.take k)
      have hlk : (ids.take k).length = k := by simp; omega
      rw [hlk] at hsz
      have hil' : (i : Int) < (bufs.length : Int) := by omega
      have hi0 : (0 : Int) ≤ (i : Int) := by omega
      have hlt' : (k : Int) < (ids.length : Int) := by omega
      have hk0 : (0 : Int) ≤ (k : Int) := by omega
      have hl0 : (0 : Int) ≤ (l.length : Int) := by omega
      have hl3' : (l.length : Int) ≤ 3 := by omega
      unfold maxLen at hmx
      have NB : u4.ownBlock ≠ some bb := fun e => by have := hG _ e; have := h.hb.lt; omega
      have q9' := hba.2.1
      go_wp2
      go_region_held3 (fun w' => w'.cell? ⟨bb, i * 10 + 9, none⟩ = some (.int .i64 l.length)) (first | exact q9 | exact (hC2.drew.grown hg2 NB).get q9') ((refine step_append_sl _ (by rfl) _ _ _ (by rfl) el_span (v := u4) (by rfl) (by exact hS.drew) (m := l.length) (by rfl) (by exact hrd.drew) (spCs_length l) (spCs_one l) (by omega) (by omega) ?_; intro v' w2 hs2 hg2 hb2 hn2))
      have R1 : Sl w2 37 3 v' (spansOf bufs (ids.take (k + 1))).length (spCs (spansOf bufs (ids.take (k + 1)))) := by rw [hst, List.length_append, spCs_append]; exact hs2
      have R2 : ∀ g, v'.ownBlock = some g → w.heap.size ≤ g := by
        intro g hg
        rcases hb2 with e | e
        · exact hG g (by rw [← e]; exact hg)
        · rw [e] at hg; cases hg; exact hF.size
      have R3 : v' = .slice none 0 0 ↔ spansOf bufs (ids.take (k + 1)) = [] := by
        rw [hn2, hN, hst, List.append_eq_nil_iff]
        constructor
        · rintro ⟨a, b⟩; exact ⟨a, List.eq_nil_of_length_eq_zero b⟩
        · rintro ⟨a, b⟩; exact ⟨a, by rw [b]; rfl⟩
      have R4 : Fr (fun _ => False) w w2 := hF.drew.grown hg2 (fun g hg e => by have := hG g e; omega)
      clear hs2 hg2 hb2 hn2 hS hG hN hF
      go_wp2
      go_roundw
      case rel => exact ⟨k + 1, by omega, by go_num, R1, R2, R3, R4⟩
      case measure => simp [intOf]; omega
    · obtain rfl : k = ids.length := by omega
      rw [List.take_length] at hS hN
      go_wp2
      go_ret
      exact ⟨_, rfl, hS, hG, hN, hF⟩

end Go.Proofs.YtkjggglmemafgaaGreat
