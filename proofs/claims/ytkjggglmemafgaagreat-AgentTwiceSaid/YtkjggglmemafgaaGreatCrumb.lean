import Derived.Test.YtkjggglmemafgaaGreatObj
import Derived.Test.YtkjggglmemafgaaGreatIns
import Derived.Deep.RegionHeld3
import Derived.Deep.Cut
namespace Go.Proofs.YtkjggglmemafgaaGreat
open Go Go.RowKit
set_option linter.unusedVariables false
set_option linter.unusedSimpArgs false
set_option maxRecDepth 20000

/-! ### spoor/crumb -/
structure CrumbM where
  n : Int
  of : Int → List Int
def setF {α : Type} (f : Int → α) (t : Int) (v : α) : Int → α := fun k => if t = k then v else f k
def insS (l : List Int) (a : Int) : List Int := l.take (rankS l a) ++ a :: l.drop (rankS l a)
def CrumbM.add (m : CrumbM) (t a : Int) : Int × CrumbM :=
  if t < 1 ∨ 65535 < t then (1, m) else if a < 0 ∨ m.n ≤ a then (2, m) else if (m.of t).contains a then (8, m) else (0, { m with of := setF m.of t (insS (m.of t) a) })
def CrumbM.drop (m : CrumbM) (t : Int) : CrumbM := { m with of := setF m.of t [] }
structure CrumbOk (m : CrumbM) : Prop where
  n : 1 ≤ m.n ∧ m.n ≤ 4
  srt : ∀ t, (m.of t).Pairwise (· < ·)
  rng : ∀ t, ∀ x ∈ m.of t, 0 ≤ x ∧ x < m.n
theorem srt_int_len : ∀ (l : List Int) (lo hi : Int), l.Pairwise (· < ·) → (∀ x ∈ l, lo ≤ x ∧ x < hi) → (l.length : Int) ≤ max 0 (hi - lo)
  | [], lo, hi, _, _ => by simp; omega
  | a :: l, lo, hi, h1, h2 => by
    have h3 := h2 a (List.mem_cons_self ..)
    have h4 := List.pairwise_cons.1 h1
    have := srt_int_len l (a + 1) hi h4.2 (fun x hx => ⟨by have := h4.1 x hx; omega, (h2 x (List.mem_cons_of_mem _ hx)).2⟩)
    simp only [List.length_cons]; omega
theorem CrumbOk.len {m : CrumbM} (h : CrumbOk m) (t : Int) : (m.of t).length ≤ 4 := by
  have := srt_int_len (m.of t) 0 m.n (h.srt t) (h.rng t); have := h.n; omega
theorem rank_split {l : List Int} (h : l.Pairwise (· < ·)) (x : Int) : (∀ y ∈ l.take (rankS l x), y < x) ∧ (∀ y ∈ l.drop (rankS l x), x ≤ y) := by
  induction l with
  | nil => simp [rankS]
  | cons a l ih =>
    have h2 := List.pairwise_cons.1 h
    have ih := ih h2.2
    by_cases ha : a < x
    · have e : rankS (a :: l) x = rankS l x + 1 := by simp [rankS, ha]
      rw [e]
      refine ⟨fun y hy => ?_, fun y hy => ih.2 y (by simpa using hy)⟩
      simp only [List.take_succ_cons, List.mem_cons] at hy
      rcases hy with rfl | hy
      · exact ha
      · exact ih.1 y hy
    · have e : rankS (a :: l) x = 0 := by
        unfold rankS; rw [List.countP_eq_zero]
        intro y hy; simp
        rcases List.mem_cons.1 hy with rfl | hy
        · omega
        · have := h2.1 y hy; omega
      rw [e]
      refine ⟨fun y hy => by simp at hy, fun y hy => ?_⟩
      simp only [List.drop_zero, List.mem_cons] at hy
      rcases hy with rfl | hy
      · omega
      · have := h2.1 y hy; omega
theorem ins_mem {l : List Int} {a y : Int} : y ∈ insS l a ↔ y = a ∨ y ∈ l := by
  unfold insS
  have := List.take_append_drop (rankS l a) l
  constructor
  · intro h
    rcases List.mem_append.1 h with h | h
    · exact .inr (List.mem_of_mem_take h)
    · rcases List.mem_cons.1 h with h | h
      · exact .inl h
      · exact .inr (List.mem_of_mem_drop h)
  · rintro (rfl | h)
    · simp
    · rw [← this] at h
      rcases List.mem_append.1 h with h | h
      · exact List.mem_append_left _ h
      · exact List.mem_append_right _ (List.mem_cons_of_mem _ h)
theorem ins_srt {l : List Int} {a : Int} (h : l.Pairwise (· < ·)) (hn : a ∉ l) : (insS l a).Pairwise (· < ·) := by
  have hs := rank_split h a
  unfold insS
  rw [List.pairwise_append]
  refine ⟨h.sublist (List.take_sublist _ _), List.pairwise_cons.2 ⟨fun y hy => ?_, h.sublist (List.drop_sublist _ _)⟩, fun x hx y hy => ?_⟩
  · have := hs.2 y hy
    have : y ≠ a := fun e => hn (e ▸ List.mem_of_mem_drop hy)
    omega
  · have h1 := hs.1 x hx
    rcases List.mem_cons.1 hy with rfl | hy
    · exact h1
    · have := hs.2 y hy; omega
theorem CrumbOk.add {m : CrumbM} (h : CrumbOk m) (t a : Int) : CrumbOk (m.add t a).2 := by
  unfold CrumbM.add
  split
  · exact h
  · split
    · exact h
    · next h2 =>
      split
      · exact h
      · next h3 =>
        have hn : a ∉ m.of t := by simpa using h3
        refine ⟨h.n, fun k => ?_, fun k x hx => ?_⟩
        · simp only [setF]; split
          · exact ins_srt (h.srt t) hn
          · exact h.srt k
        · simp only [setF] at hx; split at hx
          · rcases ins_mem.1 hx with rfl | hx
            · show 0 ≤ x ∧ x < m.n; omega
            · exact h.rng t x hx
          · exact h.rng k x hx
theorem CrumbOk.drop {m : CrumbM} (h : CrumbOk m) (t : Int) : CrumbOk (m.drop t) :=
  ⟨h.n, fun k => by simp only [CrumbM.drop, setF]; split; simp; exact h.srt k, fun k x hx => by simp only [CrumbM.drop, setF] at hx; split at hx; simp at hx; exact h.rng k x hx⟩

def chainA (x : Int × Chain) : Asn := intsA x.2.1 x.2.2
structure CrumbE (m : CrumbM) (E : List (Int × Chain)) : Prop where
  nd : (E.map (·.1)).Nodup
  of : ∀ t, (get E t noChain).2 = m.of t
  nil : ∀ x ∈ E, x.2.2 ≠ []
def crumbA (b : Nat) (m : CrumbM) : Asn := Ex fun (x : Nat × List (Int × Chain)) => sep [Pu (CrumbE m x.2), blkA b 150 [.int .i64 m.n, .map (some x.1)], mapA x.1 (mv Prod.fst x.2), bigA chainA x.2]
theorem crumb_open {w0 w : World} {R : List Asn} {b : Nat} {m : CrumbM} (h : St w0 (crumbA b m :: R) w) : ∃ mb E, CrumbE m E ∧ St w0 (blkA b 150 [.int .i64 m.n, .map (some mb)] :: mapA mb (mv Prod.fst E) :: bigA chainA E :: R) w := by
  obtain ⟨⟨mb, E⟩, h⟩ := h.ex
  have h2 := h.flat
  obtain ⟨hE, h3⟩ := h2.pu
  exact ⟨mb, E, hE, h3⟩
theorem crumb_shut {w0 w : World} {R : List Asn} {b mb : Nat} {m : CrumbM} {E : List (Int × Chain)} (hE : CrumbE m E) (h : St w0 (blkA b 150 [.int .i64 m.n, .map (some mb)] :: mapA mb (mv Prod.fst E) :: bigA chainA E :: R) w) : St w0 (crumbA b m :: R) w := by
  exact St.exI (mb, E) (St.fold [_, _, _, _] (St.puI hE h))
theorem crumbS_new {w0 w : World} {R : List Asn} (h : St w0 R w) (n : Int) (hn : 1 ≤ n ∧ n ≤ 4) : Calls Tryz.prog 40 #[.int .i64 n] w fun e w' => ∃ b, e = .returned (.pointer (some ⟨b, 0, none⟩)) ∧ St w0 (crumbA b ⟨n, fun _ => []⟩ :: R) w' := by
  obtain ⟨h1, h2⟩ := hn
  go_enter Tryz.func40, Tryz.ntmps40
  go_wp2
  have s := (h.allocMap rfl).alloc [.int .i64 n, .map (some w.heap.size)] 150 (B := w.heap.size + 1)
  go_ret
  exact ⟨_, rfl, crumb_shut (E := []) ⟨by simp, fun _ => rfl, fun x hx => by cases hx⟩ (((s.bigNil chainA).at 2).at 2)⟩
theorem crumb_new_bad (w : World) (n : Int) (hn : ¬ (1 ≤ n ∧ n ≤ 4)) : Calls Tryz.prog 40 #[.int .i64 n] w fun e w' => e = .returned (.pointer none) ∧ w = w' := by
  go_enter Tryz.func40, Tryz.ntmps40
  by_cases h1 : n < 1
  all_goals
    go_wp2
    go_ret
    exact ⟨rfl, rfl⟩
theorem chain_split {E : List (Int × Chain)} {t : Int} (hh : has E t = true) : ∃ l1 l2, E = l1 ++ (t, get E t noChain) :: l2 := List.mem_iff_append.1 (mem_of_has hh noChain)
theorem put_split {α : Type} {l1 l2 : List (Int × α)} {t : Int} {c v : α} (hn : ((l1 ++ (t, c) :: l2).map (·.1)).Nodup) : put (l1 ++ (t, c) :: l2) t v = l1 ++ (t, v) :: l2 := by
  have h1 : has (l1 ++ (t, c) :: l2) t = true := has_iff.2 (by simp)
  rw [put, if_pos h1]
  simp only [List.map_append, List.map_cons] at hn ⊢
  rw [List.nodup_append] at hn
  obtain ⟨-, h2, h3⟩ := hn
  have h4 := List.nodup_cons.1 h2
  have e1 : l1.map (fun p => if p.1 = t then (t, v) else p) = l1 := by
    conv => rhs; rw [← List.map_id l1]
    apply List.map_congr_left
    intro p hp
    have : p.1 ≠ t := h3 p.1 (List.mem_map_of_mem hp) t (List.mem_cons_self ..)
    simp [this]
  have e2 : l2.map (fun p => if p.1 = t then (t, v) else p) = l2 := by
    conv => rhs; rw [← List.map_id l2]
    apply List.map_congr_left
    intro p hp
    have : p.1 ≠ t := fun e => h4.1 (e ▸ List.mem_map_of_mem hp)
    simp [this]
  rw [e1, e2]; simp
theorem del_split {α : Type} {l1 l2 : List (Int × α)} {t : Int} {c : α} (hn : ((l1 ++ (t, c) :: l2).map (·.1)).Nodup) : del (l1 ++ (t, c) :: l2) t = l1 ++ l2 := by
  simp only [List.map_append, List.map_cons] at hn
  rw [List.nodup_append] at hn
  obtain ⟨-, h2, h3⟩ := hn
  have h4 := List.nodup_cons.1 h2
  unfold del
  rw [List.filter_append, List.filter_cons]
  simp only [beq_self_eq_true, Bool.not_true, Bool.false_eq_true, if_false]
  rw [List.filter_eq_self.2, List.filter_eq_self.2]
  · intro p hp
    have : p.1 ≠ t := fun e => h4.1 (e ▸ List.mem_map_of_mem hp)
    simp [this]
  · intro p hp
    have : p.1 ≠ t := h3 p.1 (List.mem_map_of_mem hp) t (List.mem_cons_self ..)
    simp [this]
theorem del_none {α : Type} {E : List (Int × α)} {t : Int} (hh : has E t = false) : del E t = E := by
  unfold del; rw [List.filter_eq_self]
  intro p hp
  have := has_false.1 hh
  have : p.1 ≠ t := fun e => this (e ▸ List.mem_map_of_mem hp)
  simp [this]
theorem nodup_put {α : Type} {E : List (Int × α)} {t : Int} {v : α} (hn : (E.map (·.1)).Nodup) : ((put E t v).map (·.1)).Nodup := by
  unfold put
  split
  · rw [List.map_map]
    have : (fun p : Int × α => (if p.1 = t then (t, v) else p).1) = fun p => p.1 := by funext p; split <;> simp_all
    simp only [Function.comp_def, this]; exact hn
  · next hh =>
    have hf : has E t = false := by simpa using hh
    rw [List.map_append, List.nodup_append]
    refine ⟨hn, by simp, fun a ha b hb => ?_⟩
    simp at hb; subst hb
    rintro rfl
    exact has_false.1 hf ha
theorem nodup_del {α : Type} {E : List (Int × α)} {t : Int} (hn : (E.map (·.1)).Nodup) : ((del E t).map (·.1)).Nodup := hn.sublist ((List.filter_sublist).map _)
/-- the chain of a trace, taken out -/
theorem chain_take {w0 w : World} {R : List Asn} {E : List (Int × Chain)} (t : Int) (h : St w0 (bigA chainA E :: R) w) :
    ∃ l, (has E t = true ∧ (∃ l1 l2, E = l1 ++ (t, get E t noChain) :: l2 ∧ l = l1 ++ l2) ∨ has E t = false ∧ l = E) ∧ St w0 (intsA (get E t noChain).1 (get E t noChain).2 :: bigA chainA l :: R) w := by
  cases hh : has E t with
  | true =>
    obtain ⟨l1, l2, he⟩ := chain_split hh
    refine ⟨l1 ++ l2, .inl ⟨rfl, l1, l2, he, rfl⟩, ?_⟩
    have h' := h
    rw [he] at h'
    exact h'.pick
  | false =>
    rw [get_of_not hh]
    exact ⟨E, .inr ⟨rfl, rfl⟩, h.slNil _ _⟩
theorem chain_put {w0 w : World} {R : List Asn} {E l : List (Int × Chain)} {t : Int} {c : Chain} (hn : (E.map (·.1)).Nodup) (hl : has E t = true ∧ (∃ l1 l2, E = l1 ++ (t, get E t noChain) :: l2 ∧ l = l1 ++ l2) ∨ has E t = false ∧ l = E)
    (h : St w0 (intsA c.1 c.2 :: bigA chainA l :: R) w) : St w0 (bigA chainA (put E t c) :: R) w := by
  rcases hl with ⟨hh, l1, l2, he, rfl⟩ | ⟨hh, rfl⟩
  · have hp : put E t c = l1 ++ (t, c) :: l2 := by rw [he]; exact put_split (he ▸ hn)
    rw [hp]
    exact St.unpick (x := (t, c)) h
  · have hp : put l t c = l ++ [(t, c)] := by unfold put; rw [hh]; rfl
    rw [hp]
    exact St.bigSnoc (x := (t, c)) h
theorem crumbS_of {w0 w : World} {R : List Asn} {b : Nat} {m : CrumbM} (h : St w0 (crumbA b m :: R) w) (hok : CrumbOk m) (t : Int) : Calls Tryz.prog 54 #[.pointer (some ⟨b,0,none⟩), .int .i64 t] w (IntsS w0 (crumbA b m :: R) (m.of t)) := by
  obtain ⟨mb, E, hE, s⟩ := crumb_open h
  obtain ⟨l, hl, s2⟩ := chain_take t (s.at 2)
  have hlen := hok.len t
  rw [← hE.of t] at hlen ⊢
  have hnil : (get E t noChain).1 = .slice none 0 0 ↔ (get E t noChain).2 = [] := by
    cases hh : has E t with
    | false => rw [get_of_not hh]; simp [noChain]
    | true =>
      have := hE.nil _ (mem_of_has hh noChain)
      obtain ⟨g, off, cap, hv, -⟩ := s2.sl.form (List.length_pos_iff.2 this)
      rw [hv]; simp; exact this
  have H1 := fun W (hW : Dr w W) => clone_ints W (get E t noChain).1 (get E t noChain).2 ((s2.dr hW).sl) hnil (by omega)
  have c1 := s.blk.get (i := 1) rfl
  have im := (s.at 1).im
  clear hnil
  go_enter Tryz.func54, Tryz.ntmps54
  go_wp2_with fail
  refine (H1 w (Dr.refl _)).mono ?_
  rintro e w1 hN
  obtain ⟨v, rfl, s3, hv⟩ := IntsS.of h hN
  go_wp2
  go_ret
  exact ⟨v, rfl, s3, hv⟩
theorem crumbS_drop {w0 w : World} {R : List Asn} {b : Nat} {m : CrumbM} (h : St w0 (crumbA b m :: R) w) (t : Int) : Calls Tryz.prog 104 #[.pointer (some ⟨b,0,none⟩), .int .i64 t] w (VoidS w0 (crumbA b (m.drop t) :: R)) := by
  obtain ⟨mb, E, hE, s⟩ := crumb_open h
  obtain ⟨l, hl, s2⟩ := chain_take t (s.at 2)
  have hd : l = del E t := by
    rcases hl with ⟨hh, l1, l2, he, rfl⟩ | ⟨hh, rfl⟩
    · have := del_split (t := t) (c := get E t noChain) (l1 := l1) (l2 := l2) (by rw [← he]; exact hE.nd)
      rw [← he] at this; exact this.symm
    · exact (del_none hh).symm
  have s3 := ((s2.drop).at 2).mdel t
  rw [hd, del_mv] at s3
  have fin : St w0 (crumbA b (m.drop t) :: R) (w.mdel mb t) := crumb_shut (m := m.drop t) (E := del E t) ⟨nodup_del hE.nd, fun k => by rw [get_del]; simp only [CrumbM.drop, setF]; split; rfl; exact hE.of k, fun x hx => hE.nil x (mem_del.1 hx).1⟩ (s3.at 2)
  have F : Hid _ := fin
  have c1 := s.blk.get (i := 1) rfl
  have im := (s.at 1).im
  clear fin
  go_enter Tryz.func104, Tryz.ntmps104
  go_wp2
  go_end0
  exact ⟨rfl, F.out⟩
/-- the early ends of Add -/
theorem crumb_add_early {w0 w : World} {R : List Asn} {b : Nat} {m : CrumbM} (h : St w0 (crumbA b m :: R) w) (t a : Int) (hb : (t < 1 ∨ 65535 < t) ∨ (a < 0 ∨ m.n ≤ a)) :
    Calls Tryz.prog 47 #[.pointer (some ⟨b,0,none⟩), .int .i64 t, .int .i64 a] w (IntS w0 (crumbA b (m.add t a).2 :: R) (m.add t a).1) := by
  obtain ⟨mb, E, hE, s⟩ := crumb_open h
  have c0 := s.blk.get (i := 0) rfl
  by_cases h1 : t < 1 ∨ 65535 < t
  · have HA : Hid (m.add t a = (1, m)) := (by rw [CrumbM.add, if_pos h1] : m.add t a = (1, m))
    rw [HA.out]
    clear hb
    by_cases h2 : t < 1
    all_goals
      go_enter Tryz.func47, Tryz.ntmps47
      go_wp2
      go_ret
      exact ⟨rfl, h⟩
  · have h3 := hb.resolve_left h1
    have HA : Hid (m.add t a = (2, m)) := (by rw [CrumbM.add, if_neg h1, if_pos h3] : m.add t a = (2, m))
    rw [HA.out]
    have h4 : 1 ≤ t := by omega
    have h5 : t ≤ 65535 := by omega
    clear hb h1
    by_cases h2 : a < 0
    all_goals
      go_enter Tryz.func47, Tryz.ntmps47
      go_wp2
      go_ret
      exact ⟨rfl, h⟩
set_option maxHeartbeats 1000000 in
theorem crumb_add_main {w0 w : World} {R : List Asn} {b : Nat} {m : CrumbM} (h : St w0 (crumbA b m :: R) w) (hok : CrumbOk m) (t a : Int) (h1 : 1 ≤ t) (h2 : t ≤ 65535) (h3 : 0 ≤ a) (h4 : a < m.n) :
    Calls Tryz.prog 47 #[.pointer (some ⟨b,0,none⟩), .int .i64 t, .int .i64 a] w (IntS w0 (crumbA b (m.add t a).2 :: R) (m.add t a).1) := by
  obtain ⟨mb, E, hE, s⟩ := crumb_open h
  obtain ⟨l, hl, s2⟩ := chain_take t (s.at 2)
  have hlen := hok.len t
  have hsrt := hok.srt t
  have hof := hE.of t
  rw [← hof] at hlen hsrt
  have c0 := s.blk.get (i := 0) rfl
  have c1 := s.blk.get (i := 1) rfl
  have im := (s.at 1).im
  obtain ⟨⟨cv, cl⟩, hcv⟩ : ∃ x, x = get E t noChain := ⟨_, rfl⟩
  rw [← hcv] at s2 hlen hsrt hl hof
  obtain ⟨va, vc, hvv⟩ := s2.sl.lit
  simp only [] at hvv hlen hsrt hof
  subst hvv
  have HCV : Hid _ := hcv
  have gv : (get E t noChain).1 = .slice va cl.length vc := by rw [← hcv]
  have HE : Hid _ := hE
  have HL : Hid _ := hl
  have HOF : Hid _ := hof
  have HF1 : Hid (m.add t a = if cl.contains a then (8, m) else (0, { m with of := setF m.of t (insS cl a) })) := (by rw [CrumbM.add, if_neg (by omega), if_neg (by omega), ← hof] : m.add t a = _)
  clear hcv hE hl hof
  go_enter Tryz.func47, Tryz.ntmps47
  go_wp2_with fail
  refine (slices_search w _ cl a (by omega) s2.sl hsrt).mono ?_
  rintro e w1 ⟨rfl, hD⟩
  have s1 := h.dr hD
  have s3 := s2.dr hD
  cases hc : cl.contains a
  · have HA : Hid (m.add t a = (0, { m with of := setF m.of t (insS cl a) })) := (by rw [HF1.out, hc]; rfl : m.add t a = _)
    have b1 := (s3.at 2).blk
    have d1 := b1.get (i := 1) rfl
    have im1 := (s3.at 3).im
    have hrk : rankS cl a ≤ cl.length := List.countP_le_length ..
    have hrk0 : (0 : Int) ≤ (rankS cl a : Int) := by omega
    have hb1 := b1.lt
    go_wp2
    go_region_held3 (fun w' => w'.cell? ⟨b, 1, none⟩ = some (.map (some mb))) (first | exact d1 | assumption | (rw [cell?_mput]; assumption) | (simp [World.cell?_alloc_lt, hb1]; exact d1))
      (first | (go_at_call 88; refine (slices_insert _ (.slice va cl.length vc) cl (rankS cl a) a w1.heap.size 1 hrk (by omega) (by first | exact (s3.skip _).sl | exact (s3.drew.skip _).sl | exact (s3.skip _).drew.sl) (by exact Blk.new _ [.int .i64 a] _) (fun e => by have := s3.sl.lt e; omega)).mono ?_; rintro e w2 ⟨v2, rfl, hS2, hG2, hB2⟩; have s4 := ((s3.skip (.cells #[.int .i64 a] 3)).drew).append hS2 hG2 hB2; have d2 := (s4.at 2).blk.get (i := 1) rfl; have im2 := (s4.at 3).im))
    go_wp2
    go_ret
    have hlen2 : (insS cl a).length = cl.length + 1 := by unfold insS; simp [List.length_take, List.length_drop]; omega
    have s5 : St w0 (intsA v2 (insS cl a) :: bigA chainA l :: blkA b 150 [.int .i64 m.n, .map (some mb)] :: mapA mb (mv Prod.fst E) :: R) w2 := by
      unfold intsA; rw [hlen2]; exact s4
    have s6 := (chain_put (c := (v2, insS cl a)) HE.out.nd (by rw [← HCV.out]; exact HL.out) s5)
    have s7 := (s6.at 2).mput t v2
    have e7 : put (mv Prod.fst E) t v2 = mv Prod.fst (put E t (v2, insS cl a)) := put_mv Prod.fst E t (v2, insS cl a)
    rw [e7] at s7
    refine ⟨by rw [HA.out]; rfl, ?_⟩
    rw [HA.out]
    refine crumb_shut (m := { m with of := setF m.of t (insS cl a) }) (E := put E t (v2, insS cl a)) ⟨nodup_put HE.out.nd, fun k => ?_, fun x hx => ?_⟩ (s7.at 2)
    · rw [get_put]; simp only [setF]; split
      · rfl
      · exact HE.out.of k
    · rcases mem_put hx with rfl | ⟨hx, -⟩
      · intro e; simp only [] at e; rw [e] at hlen2; simp at hlen2
      · exact HE.out.nil x hx
  · have HA : Hid (m.add t a = (8, m)) := (by rw [HF1.out, hc]; rfl : m.add t a = (8, m))
    go_wp2
    go_ret
    exact ⟨by rw [HA.out]; rfl, by rw [HA.out]; exact s1⟩
theorem crumbS_add {w0 w : World} {R : List Asn} {b : Nat} {m : CrumbM} (h : St w0 (crumbA b m :: R) w) (hok : CrumbOk m) (t a : Int) :
    Calls Tryz.prog 47 #[.pointer (some ⟨b,0,none⟩), .int .i64 t, .int .i64 a] w (IntS w0 (crumbA b (m.add t a).2 :: R) (m.add t a).1) := by
  by_cases hb : (t < 1 ∨ 65535 < t) ∨ (a < 0 ∨ m.n ≤ a)
  · exact crumb_add_early h t a hb
  · exact crumb_add_main h hok t a (by omega) (by omega) (by omega) (by omega)
end Go.Proofs.YtkjggglmemafgaaGreat
