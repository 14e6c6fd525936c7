import Derived.Test.YtkjggglmemafgaaGreatBase
import Derived.Deep.AppendLies
import Derived.Laws.CopyRow
namespace Go.Proofs.YtkjggglmemafgaaGreat
open Go Go.RowKit

/-! ### Slices in memory -/
/-- v: a slice of n elements of type e (sz cells each) that lies, from wherever on, in a block of e's; its cells are xs. -/
def Sl (w : World) (e : TypeId) (sz : Nat) (v : Value) (n : Nat) (xs : List Value) : Prop :=
  xs.length = n * sz ∧
  ((v = .slice none 0 0 ∧ n = 0) ∨
   ∃ g off cap cur, v = .slice (some ⟨g, off, none⟩) n cap ∧ w.heap[g]? = some (.cells cur e (0, 0)) ∧ n ≤ cap ∧ cap ≤ maxLen ∧ off + cap * sz ≤ cur.size ∧ (cur.toList.drop off).take (n * sz) = xs)

/-- v: a slice of n elements; its cells, which can be read, are xs. -/
def Rd (w : World) (v : Value) (n : Nat) (xs : List Value) : Prop :=
  (v = .slice none 0 0 ∧ n = 0 ∧ xs = []) ∨ ∃ ad c, v = .slice (some ad) n c ∧ ∀ (j : Nat) (u : Value), xs[j]? = some u → w.cell? (ad.add j) = some u

theorem add_lit (g off j : Nat) : (⟨g, off, none⟩ : Addr).add j = ⟨g, off + j, none⟩ := by unfold Addr.add; split <;> simp_all

section
variable {w : World} {e : TypeId} {sz : Nat} {v : Value} {n : Nat} {xs : List Value}
theorem Sl.nil (w : World) (e : TypeId) (sz : Nat) : Sl w e sz (.slice none 0 0) 0 [] := ⟨by simp, .inl ⟨rfl, rfl⟩⟩
theorem Sl.lt (h : Sl w e sz v n xs) {g : Nat} (hg : v.ownBlock = some g) : g < w.heap.size := by
  rcases h.2 with ⟨rfl, _⟩ | ⟨g', off, cap, cur, rfl, hb, _⟩
  · cases hg
  · cases hg; exact (Array.getElem?_eq_some_iff.1 hb).1
theorem Sl.fr {S : Nat → Prop} {w' : World} (h : Sl w e sz v n xs) (hf : Fr S w w') (hs : ∀ g, v.ownBlock = some g → ¬ S g) : Sl w' e sz v n xs := by
  refine ⟨h.1, ?_⟩
  rcases h.2 with h | ⟨g, off, cap, cur, rfl, hb, r⟩
  · exact .inl h
  · exact .inr ⟨g, off, cap, cur, rfl, (hf.block g (Array.getElem?_eq_some_iff.1 hb).1 (hs g rfl)).trans hb, r⟩
theorem Sl.grown {row : Option Nat} {w' : World} (h : Sl w e sz v n xs) (hg : w.grownBy w' row) (hs : v.ownBlock = none ∨ v.ownBlock ≠ row) : Sl w' e sz v n xs := by
  refine ⟨h.1, ?_⟩
  rcases h.2 with h | ⟨g, off, cap, cur, rfl, hb, r⟩
  · exact .inl h
  · exact .inr ⟨g, off, cap, cur, rfl, (hg.block g (Array.getElem?_eq_some_iff.1 hb).1 (by rcases hs with h | h; cases h; exact h)).trans hb, r⟩
theorem Sl.cells (h : Sl w e sz v n xs) {g off l c : Nat} (hv : v = .slice (some ⟨g, off, none⟩) l c) : ∀ (j : Nat) (u : Value), xs[j]? = some u → w.cell? ⟨g, off + j, none⟩ = some u := by
  intro j u hu
  rcases h.2 with ⟨rfl, _⟩ | ⟨g', off', cap, cur, rfl, hb, _, _, hc, rfl⟩
  · cases hv
  · cases hv
    rw [List.getElem?_take] at hu
    split at hu
    · rw [List.getElem?_drop] at hu
      simpa [World.cell?, hb] using hu
    · cases hu
theorem Sl.free (h : Sl w e sz v n xs) {g off l c : Nat} (hv : v = .slice (some ⟨g, off, none⟩) l c) (j : Nat) : w.frozen? ⟨g, j, none⟩ = false := by
  rcases h.2 with ⟨rfl, _⟩ | ⟨g', off', cap, cur, rfl, hb, _⟩
  · cases hv
  · cases hv; simp [World.frozen?, hb]
theorem Sl.rd (h : Sl w e sz v n xs) : Rd w v n xs := by
  rcases h.2 with ⟨rfl, rfl⟩ | ⟨g, off, cap, cur, rfl, hb, r⟩
  · exact .inl ⟨rfl, rfl, List.eq_nil_of_length_eq_zero (by simpa using h.1)⟩
  · exact .inr ⟨_, _, rfl, fun j u hu => by rw [add_lit]; exact h.cells rfl j u hu⟩
theorem Sl.form (h : Sl w e sz v n xs) (hn : 0 < n) : ∃ g off cap, v = .slice (some ⟨g, off, none⟩) n cap ∧ g < w.heap.size ∧ n ≤ cap ∧ cap ≤ maxLen := by
  rcases h.2 with ⟨_, rfl⟩ | ⟨g, off, cap, cur, rfl, hb, h1, h2, _⟩
  · cases hn
  · exact ⟨g, off, cap, rfl, (Array.getElem?_eq_some_iff.1 hb).1, h1, h2⟩
theorem Sl.shape (h : Sl w e sz v n xs) : v = .slice none 0 0 ∧ n = 0 ∨ ∃ g off cap, v = .slice (some ⟨g, off, none⟩) n cap ∧ g < w.heap.size ∧ n ≤ cap ∧ cap ≤ maxLen := by
  rcases h.2 with h | ⟨g, off, cap, cur, rfl, hb, h1, h2, _⟩
  · exact .inl h
  · exact .inr ⟨g, off, cap, rfl, (Array.getElem?_eq_some_iff.1 hb).1, h1, h2⟩
theorem Sl.lit (h : Sl w e sz v n xs) : ∃ a c, v = .slice a n c := by
  rcases h.shape with ⟨hv, h0⟩ | ⟨g, off, cap, hv, _⟩
  · rw [h0]; exact ⟨_, _, hv⟩
  · exact ⟨_, _, hv⟩
theorem Sl.of_own {base : Nat} (h : w.ownsRow base e sz v n xs) : Sl w e sz v n xs := by
  refine ⟨h.1, ?_⟩
  rcases h.2 with h | ⟨g, cap, cur, rfl, _, hb, h1, h2, h3, h4⟩
  · exact .inl h
  · exact .inr ⟨g, 0, cap, cur, rfl, hb, h1, h2, by omega, by simpa using h4⟩
theorem Sl.ne_blk (h : Sl w e sz v n xs) {b : Nat} {T : TypeId} {cs : List Value} (hb : Blk w b T cs) (hT : T ≠ e) : v.ownBlock ≠ some b := by
  rcases h.2 with ⟨rfl, _⟩ | ⟨g, off, cap, cur, rfl, hg, _⟩
  · simp [Value.ownBlock]
  · simp only [Value.ownBlock, ne_eq, Option.some.injEq]
    rintro rfl
    unfold Blk at hb; rw [hg] at hb; simp at hb; exact hT hb.2.symm
theorem Sl.ne_ents (h : Sl w e sz v n xs) {m : Nat} {x} (hm : w.ents m = some x) : v.ownBlock ≠ some m := by
  rcases h.2 with ⟨rfl, _⟩ | ⟨g, off, cap, cur, rfl, hg, _⟩
  · simp [Value.ownBlock]
  · simp only [Value.ownBlock, ne_eq, Option.some.injEq]
    rintro rfl
    have := heap_of_ents hm; rw [hg] at this; cases this
theorem Sl.alloc (h : Sl w e sz v n xs) (o : Obj) : Sl (w.alloc o) e sz v n xs := h.fr ((Fr.refl (fun _ => False) w).alloc o) (fun _ _ h => h)
theorem Sl.drew (h : Sl w e sz v n xs) : Sl w.drew e sz v n xs := h
theorem Sl.drewN (h : Sl w e sz v n xs) (k : Nat) : Sl (w.drewN k) e sz v n xs := h
theorem Sl.setCell (h : Sl w e sz v n xs) {p : Addr} (hp : v.ownBlock ≠ some p.block) (u : Value) : Sl (w.setCell p u) e sz v n xs :=
  h.fr ((Fr.refl (fun k => k = p.block) w).setCell (fun _ => rfl) u) (fun g hg e => hp (by rw [hg, e]))
theorem Rd.drew (h : Rd w v n xs) : Rd w.drew v n xs := h
theorem Rd.drewN (h : Rd w v n xs) (k : Nat) : Rd (w.drewN k) v n xs := h
theorem Rd.fr {S : Nat → Prop} {w' : World} (h : Rd w v n xs) (hf : Fr S w w') (hs : ∀ g, v.ownBlock = some g → ¬ S g) : Rd w' v n xs := by
  rcases h with h | ⟨ad, c, rfl, h⟩
  · exact .inl h
  · refine .inr ⟨ad, c, rfl, fun j u hu => ?_⟩
    have := h j u hu
    refine hf.cell_some this ?_
    have hb : (ad.add j).block = ad.block := by unfold Addr.add; split <;> rfl
    rw [hb]; exact hs _ rfl
end

section
variable {P : Program} (w : World)
theorem run_append_room_at (t ty e : TypeId) (i : TypeInfo) (ht : P.underlying t = some (.slice e)) (hi : P.info? e = some i)
    (g off sLen sCap : Nat) (cur : Array Value) (hg : w.heap[g]? = some (.cells cur e (0, 0)))
    (a : Addr) (m c : Nat) (news : List Value) (hl : news.length = m * i.size) (hnews : ∀ j u, news[j]? = some u → w.cell? (a.add j) = some u) (h1 : ∀ u ∈ news, u.oneCell' = true)
    (hroom : sLen + m ≤ sCap) (hfit : off + sLen * i.size + news.length ≤ cur.size) :
    (Builtin.append_ #[t, t] ty #[.slice (some ⟨g, off, none⟩) sLen sCap, .slice (some a) m c]).run P w =
      .ok (.slice (some ⟨g, off, none⟩) (sLen + m) sCap) (w.setRow g (cur.toList.take (off + sLen * i.size) ++ news ++ cur.toList.drop (off + sLen * i.size + news.length)).toArray) := by
  have hf := run_firstCells_some (P := P) w i.size m a m c news hl hnews
  have hst := run_storeCells_at P g (off + sLen * i.size) e news 0 cur w hg (by simpa using hfit) h1
  simp only [Nat.add_zero] at hst
  simp [Builtin.append_, run_underlying ht, sizeOf, typeInfo, hi, Builtin.lenOf, hroom, hf, Addr.add_lit, hst]

/-- What is known of an element's type. -/
structure El (P : Program) (t e : TypeId) (sz bytes : Nat) : Prop where
  ht : P.underlying t = some (.slice e)
  hi : ∃ i z, P.info? e = some i ∧ i.zero = some z ∧ i.size = sz ∧ i.bytes = bytes ∧ z.cells.size = sz
  pos : 0 < sz

theorem El.mk' {P : Program} {t e : TypeId} {z : Value} {sz bytes : Nat} (ht : P.underlying t = some (.slice e)) (hi : (P.info? e).map (fun i => (i.zero, i.size, i.bytes)) = some (some z, sz, bytes)) (hz : z.cells.size = sz) (hp : 0 < sz) : El P t e sz bytes := by
  cases h : P.info? e with
  | none => rw [h] at hi; cases hi
  | some i =>
    rw [h] at hi; simp only [Option.map_some, Option.some.injEq, Prod.mk.injEq] at hi
    exact ⟨ht, ⟨i, z, h, hi.1, hi.2.1, hi.2.2, hz⟩, hp⟩

theorem run_append_sl {t ty e : TypeId} {sz bytes : Nat} (E : El P t e sz bytes) {v : Value} {n : Nat} {xs : List Value} (hown : Sl w e sz v n xs)
    {x : Value} {m : Nat} {news : List Value} (hx : Rd w x m news) (hl : news.length = m * sz) (h1 : ∀ u ∈ news, u.oneCell' = true)
    (hbytes : (n + m) * bytes ≤ 140737488355328) (h63 : n + m ≤ 140737488355328) :
    ∃ v' w', (Builtin.append_ #[t, t] ty #[v, x]).run P w = .ok v' w' ∧ Sl w' e sz v' (n + m) (xs ++ news) ∧ w.grownBy w' v.ownBlock ∧
      (v'.ownBlock = v.ownBlock ∨ v'.ownBlock = some w.heap.size) ∧ (v' = .slice none 0 0 ↔ v = .slice none 0 0 ∧ m = 0) := by
  obtain ⟨ht, ⟨i, z, hi, hz, rfl, rfl, hzs⟩, hsz⟩ := E
  have hlen : (xs ++ news).length = (n + m) * i.size := by rw [List.length_append, hown.1, hl, Nat.add_mul]
  have grown : ∀ (old : Nat), old < n + m → ∀ (row : Option Nat),
      Sl (w.drew.alloc (.cells (xs.toArray ++ news.toArray ++ Builtin.zeroCells z.cells (grownCap w (n + m) old e - (n + m))) e)) e i.size
        (.slice (some ⟨w.heap.size, 0, none⟩) (n + m) (grownCap w (n + m) old e)) (n + m) (xs ++ news) ∧
      w.grownBy (w.drew.alloc (.cells (xs.toArray ++ news.toArray ++ Builtin.zeroCells z.cells (grownCap w (n + m) old e - (n + m))) e)) row := by
    intro old ho row
    have hge := grownCap_ge w (n + m) old e
    have hcm : grownCap w (n + m) old e ≤ maxLen := grownCap_le_maxLen w (n + m) old e (by simp only [maxLen]; omega)
    refine ⟨⟨hlen, .inr ⟨w.heap.size, 0, _, _, rfl, heap_alloc_new w.drew _, hge, hcm, ?_, ?_⟩⟩, ⟨rfl, rfl, rfl, by simp, fun k hk _ => Below.heap_alloc w.drew _ k hk⟩⟩
    · simp only [Array.size_append, List.size_toArray, size_zeroCells, hzs, hown.1, hl, ← Nat.add_mul, Nat.zero_add]
      apply Nat.mul_le_mul_right
      omega
    · simp only [Array.toList_append, List.append_assoc, List.drop_zero]
      rw [← List.append_assoc, ← hlen]
      exact List.take_left
  rcases hx with ⟨rfl, rfl, rfl⟩ | ⟨a, c, rfl, hnews⟩
  · -- nothing is appended
    refine ⟨v, w, ?_, by simpa using hown, ⟨rfl, rfl, rfl, Nat.le_refl _, fun _ _ _ => rfl⟩, .inl rfl, by simp⟩
    rcases hown.2 with ⟨rfl, rfl⟩ | ⟨g, off, cap, cur, rfl, hg, hnc, hcm, hcs, htake⟩
    · simp [Builtin.append_, run_underlying ht, sizeOf, typeInfo, hi, Builtin.lenOf, Builtin.firstCells]
    · have hle : n + 0 ≤ cap := by omega
      simp [Builtin.append_, run_underlying ht, sizeOf, typeInfo, hi, Builtin.lenOf, Builtin.firstCells, storeCells, hnc]
  rcases hown.2 with ⟨rfl, rfl⟩ | ⟨g, off, cap, cur, rfl, hg, hnc, hcm, hcs, htake⟩
  · have hxn : xs = [] := List.eq_nil_of_length_eq_zero (by simpa using hown.1)
    subst hxn
    by_cases hm : m = 0
    · subst hm
      have hn : news = [] := List.eq_nil_of_length_eq_zero (by simpa using hl)
      subst hn
      refine ⟨.slice none 0 0, w, ?_, Sl.nil w e i.size, ⟨rfl, rfl, rfl, Nat.le_refl _, fun _ _ _ => rfl⟩, .inl rfl, by simp⟩
      simp [Builtin.append_, run_underlying ht, sizeOf, typeInfo, hi, Builtin.lenOf, Builtin.firstCells, loadCells, loadCellsFrom]
    · have hr := run_append_nil (P := P) w t ty e i z ht hi hz a m c news hl hnews (by omega) (by omega) (by have hb := hbytes; simp only [Nat.zero_add] at hb; omega)
      have hgr := grown 0 (by omega) (Value.ownBlock (.slice none 0 0))
      simp only [Nat.zero_add, List.nil_append, Array.empty_append] at hgr ⊢
      exact ⟨_, _, hr, hgr.1, hgr.2, .inr rfl, by simp [hm]⟩
  · by_cases hroom : n + m ≤ cap
    · have hmul : (n + m) * i.size ≤ cap * i.size := Nat.mul_le_mul_right _ hroom
      have hfit : off + n * i.size + news.length ≤ cur.size := by rw [hl]; rw [Nat.add_mul] at hmul; omega
      have hr := run_append_room_at (P := P) w t ty e i ht hi g off n cap cur hg a m c news hl hnews h1 hroom hfit
      refine ⟨_, _, hr, ⟨hlen, .inr ⟨g, off, cap, _, rfl, setRow_heap w g cur _ e _ hg, hroom, hcm, ?_, ?_⟩⟩, ⟨rfl, rfl, rfl, by simp, fun k _ hk => setRow_other w g k _ (fun e => hk (by simp [Value.ownBlock, e]))⟩, .inl rfl, by simp⟩
      · simp only [List.size_toArray, List.length_append, List.length_take, List.length_drop, Array.length_toList]
        omega
      · have e1 : cur.toList.take (off + n * i.size) = cur.toList.take off ++ xs := by rw [List.take_add, htake]
        have e2 : (cur.toList.take off).length = off := by simp; omega
        show List.take ((n + m) * i.size) (List.drop off (cur.toList.take (off + n * i.size) ++ news ++ cur.toList.drop (off + n * i.size + news.length))) = xs ++ news
        rw [e1, List.append_assoc, List.append_assoc, List.drop_append_of_le_length (by omega), List.drop_eq_nil_of_le (by omega), List.nil_append, ← List.append_assoc, ← hlen]
        exact List.take_left
    · have holds : ∀ j u, xs[j]? = some u → w.cell? ((⟨g, off, none⟩ : Addr).add j) = some u := fun j u hu => by rw [add_lit]; exact hown.cells rfl j u hu
      have hr := run_append_grow (P := P) w t ty e i z ht hi hz ⟨g, off, none⟩ n cap xs hown.1 holds a m c news hl hnews (by omega) (by omega) (growslice_fits (by omega) hbytes)
      have hgr := grown cap (by omega) (Value.ownBlock (.slice (some ⟨g, off, none⟩) n cap))
      exact ⟨_, _, hr, hgr.1, hgr.2, .inr rfl, by simp⟩

theorem wp_append_sl {o : Oper} {a : Act} {K : Act → World → Prop} {Q : Exit → Act → World → Prop} (s x : Operand) (t : TypeId)
    (ho : o.op = .call { callee := .builtin .append, args := #[s, x], argTypes := #[t, t] })
    {e : TypeId} {sz bytes : Nat} (E : El P t e sz bytes) {v : Value} {n : Nat} {xs : List Value} (hs : a.eval s = v) (hown : Sl w e sz v n xs)
    {y : Value} {m : Nat} {news : List Value} (hy : a.eval x = y) (hx : Rd w y m news) (hl : news.length = m * sz) (h1 : ∀ u ∈ news, u.oneCell' = true)
    (hbytes : (n + m) * bytes ≤ 140737488355328) (h63 : n + m ≤ 140737488355328)
    (h : ∀ v' w', Sl w' e sz v' (n + m) (xs ++ news) → w.grownBy w' v.ownBlock → (v'.ownBlock = v.ownBlock ∨ v'.ownBlock = some w.heap.size) → (v' = .slice none 0 0 ↔ v = .slice none 0 0 ∧ m = 0) → K (a.put o.dst v') w') : o.wp P a w K Q := by
  obtain ⟨v', w', hr, h2, h3, h4, h5⟩ := run_append_sl (P := P) w (ty := o.type) E hown hx hl h1 hbytes h63
  unfold Oper.wp execOp
  simp only [ho, resolve, invoke, builtin, Sem.run_bind, Sem.run_pure, Result.andThen_ok, List.map_toArray, List.map_cons, List.map_nil, hs, hy, hr]
  exact h v' w' h2 h3 h4 h5

theorem wpList_append_sl {ops : Array Oper} {rest : List Oper} {o : Oper} {a : Act} {Q : Exit → Act → World → Prop} (hgd : o.guard = none) (s x : Operand) (t : TypeId)
    (ho : o.op = .call { callee := .builtin .append, args := #[s, x], argTypes := #[t, t] })
    {e : TypeId} {sz bytes : Nat} (E : El P t e sz bytes) {v : Value} {n : Nat} {xs : List Value} (hs : a.eval s = v) (hown : Sl w e sz v n xs)
    {y : Value} {m : Nat} {news : List Value} (hy : a.eval x = y) (hx : Rd w y m news) (hl : news.length = m * sz) (h1 : ∀ u ∈ news, u.oneCell' = true)
    (hbytes : (n + m) * bytes ≤ 140737488355328) (h63 : n + m ≤ 140737488355328)
    (h : ∀ v' w', Sl w' e sz v' (n + m) (xs ++ news) → w.grownBy w' v.ownBlock → (v'.ownBlock = v.ownBlock ∨ v'.ownBlock = some w.heap.size) → (v' = .slice none 0 0 ↔ v = .slice none 0 0 ∧ m = 0) → wpList P ops Q rest (a.put o.dst v') w') : wpList P ops Q (o :: rest) a w :=
  wpList_plain hgd fun _ hK => wp_append_sl w s x t ho E hs hown hy hx hl h1 hbytes h63 fun v' w' h2 h3 h4 h5 => hK _ _ (h v' w' h2 h3 h4 h5)

theorem step_append_sl {ops : Array Oper} {o : Oper} {a : Act} {K : Act → World → Prop} {Q : Exit → Act → World → Prop} {Z : Prop} (hgd : o.guard = none) (s x : Operand) (t : TypeId)
    (ho : o.op = .call { callee := .builtin .append, args := #[s, x], argTypes := #[t, t] })
    {e : TypeId} {sz bytes : Nat} (E : El P t e sz bytes) {v : Value} {n : Nat} {xs : List Value} (hs : a.eval s = v) (hown : Sl w e sz v n xs)
    {y : Value} {m : Nat} {news : List Value} (hy : a.eval x = y) (hx : Rd w y m news) (hl : news.length = m * sz) (h1 : ∀ u ∈ news, u.oneCell' = true)
    (hbytes : (n + m) * bytes ≤ 140737488355328) (h63 : n + m ≤ 140737488355328)
    (h : ∀ v' w', Sl w' e sz v' (n + m) (xs ++ news) → w.grownBy w' v.ownBlock → (v'.ownBlock = v.ownBlock ∨ v'.ownBlock = some w.heap.size) → (v' = .slice none 0 0 ↔ v = .slice none 0 0 ∧ m = 0) → K (a.put o.dst v') w') :
    if Region.wanted o (yielded ops a.tmps) = true then Oper.wp P o a w K Q else Z := by
  have hw : Region.wanted o (yielded ops a.tmps) = true := by simp [Region.wanted, hgd]
  rw [if_pos hw]
  exact wp_append_sl w s x t ho E hs hown hy hx hl h1 hbytes h63 h
end

theorem rd_new (w : World) (cs : List Value) (T : TypeId) (n : Nat) : Rd (w.alloc (.cells cs.toArray T)) (.slice (some ⟨w.heap.size, 0, none⟩) n n) n cs :=
  .inr ⟨_, _, rfl, fun j u hu => by rw [add_lit, Nat.zero_add]; exact (Blk.new w cs T).get hu⟩
theorem rd_one (w : World) (x : Value) (T : TypeId) {B : Nat} (hB : w.heap.size = B) : Rd (w.alloc (.cells #[x] T)) (.slice (some ⟨B, 0, none⟩) 1 1) 1 [x] := by subst hB; exact rd_new w [x] T 1

end Go.Proofs.YtkjggglmemafgaaGreat
