import Derived.Test.YtkjggglmemafgaaGreatProg
import Derived.Test.YtkjggglmemafgaaGreatAl
import Derived.Test.YtkjggglmemafgaaGreatSlice
import Derived.Deep.RegionHeld3
import Derived.Deep.RegionLaw
import Derived.Deep.DeepFit
namespace Go.Proofs.YtkjggglmemafgaaGreat
open Go Go.RowKit
set_option maxRecDepth 20000

/-! ### spoor/pool -/
structure Sp where
  tr : Int
  sq : Int
  tx : ByteArray
  deriving DecidableEq
def spC (s : Sp) : List Value := [.int .i64 s.tr, .int .i64 s.sq, .string s.tx]
/-- buffer i of the cells C holds the spans l -/
def BufAt (C : List Value) (i : Nat) (l : List Sp) : Prop :=
  l.length ≤ 3 ∧ C[i * 10 + 9]? = some (.int .i64 l.length) ∧ ∀ j s, l[j]? = some s → C[i * 10 + j * 3]? = some (.int .i64 s.tr) ∧ C[i * 10 + j * 3 + 1]? = some (.int .i64 s.sq) ∧ C[i * 10 + j * 3 + 2]? = some (.string s.tx)

abbrev Chain := Value × List Int
def noChain : Chain := (.slice none 0 0, [])

structure PoolR (F : Nat → Prop) (w : World) (p bb fb mb : Nat) (fv : Value) (C : List Value) (bufs : List (List Sp)) (free : List Int) (E : List (Int × Chain)) : Prop where
  hp : Blk w p 192 [.slice (some ⟨bb, 0, none⟩) bufs.length bufs.length, fv, .map (some mb)]
  hb : Blk w bb 197 C
  hC : C.length = 10 * bufs.length
  hbuf : ∀ i l, bufs[i]? = some l → BufAt C i l
  hf : Sl w 3 1 fv free.length (free.map (Value.int .i64))
  hm : w.im mb = some (mv Prod.fst E)
  hE : ∀ x ∈ E, Sl w 3 1 x.2.1 x.2.2.length (x.2.2.map (Value.int .i64)) ∧ ∀ g, x.2.1.ownBlock = some g → F g ∧ fv.ownBlock ≠ some g
  hne : E.Pairwise fun x y => ∀ g, x.2.1.ownBlock = some g → y.2.1.ownBlock ≠ some g
  fp : F p
  fbb : F bb
  fm : F mb
  ff : ∀ g, fv.ownBlock = some g → F g
  bd : Bd F w

theorem lookup_chain (w : World) (m : Nat) (k : Int) (co : Bool) (h : (w.im m).isSome = true) :
    (Instr.lookup 148 (.map (some m)) (.int .i64 k) co).run Tryz.prog w = .ok (if co then .tuple #[get ((w.im m).getD []) k (.slice none 0 0), .bool (has ((w.im m).getD []) k)] else get ((w.im m).getD []) k (.slice none 0 0)) w :=
  run_lookup_im (K := 3) (E := 53) (by kernel_rfl) (by kernel_rfl) (fun _ => by kernel_rfl) w m k co h
theorem update_chain (w : World) (m : Nat) (k : Int) (v : Value) (h : (w.im m).isSome = true) :
    (Instr.mapUpdate 148 (.map (some m)) (.int .i64 k) v).run Tryz.prog w = .ok () (w.mput m k v) :=
  run_mapUpdate_im (K := 3) (E := 53) (by kernel_rfl) (by kernel_rfl) w m k v h
theorem delete_chain (w : World) (m : Nat) (k : Int) (ty : TypeId) (h : (w.im m).isSome = true) :
    (Builtin.delete_ #[148, 3] ty #[.map (some m), .int .i64 k]).run Tryz.prog w = .ok (.tuple #[]) (w.mdel m k) :=
  run_delete_im (K := 3) (E := 53) (by kernel_rfl) (by kernel_rfl) w m k _ ty h
theorem get_chain (E : List (Int × Chain)) (k : Int) : get (mv Prod.fst E) k (.slice none 0 0) = (get E k noChain).1 := get_mv Prod.fst E k noChain
attribute [go_sem] lookup_chain update_chain delete_chain get_chain

theorem chain_of {F : Nat → Prop} {w : World} {p bb fb mb : Nat} {fv : Value} {C : List Value} {bufs : List (List Sp)} {free : List Int} {E : List (Int × Chain)} (h : PoolR F w p bb fb mb fv C bufs free E) (t : Int) :
    Sl w 3 1 (get E t noChain).1 (get E t noChain).2.length ((get E t noChain).2.map (Value.int .i64)) := by
  cases hh : has E t with
  | true => exact (h.hE _ (mem_of_has hh noChain)).1
  | false => rw [get_of_not hh]; exact Sl.nil _ _ _

theorem last_room (F : Nat → Prop) (w : World) (p bb fb mb : Nat) (fv : Value) (C : List Value) (bufs : List (List Sp)) (free : List Int) (E : List (Int × Chain)) (h : PoolR F w p bb fb mb fv C bufs free E) (t : Int)
    (ids : List Int) (i : Nat) (hids : (get E t noChain).2 = ids ++ [(i : Int)]) (l : List Sp) (hl : bufs[i]? = some l) (h3 : l.length < 3) :
    Calls Tryz.prog 119 #[.pointer (some ⟨p,0,none⟩), .int .i64 t] w fun e w' => e = .returned (.pointer (some ⟨bb, i * 10, none⟩)) ∧ Dr w w' := by
  have c0 := h.hp.get (i := 0) rfl
  have c2 := h.hp.get (i := 2) rfl
  have h1 := h.hm
  have hch := chain_of h t
  obtain ⟨g, off, cap, hv, hg, hcap, hmx⟩ := hch.form (by rw [hids]; simp)
  rw [hids, List.length_append, List.length_singleton] at hv
  have hcell := hch.cells hv ids.length (.int .i64 i) (by rw [hids]; simp)
  have hb9 := h.hb.get ((h.hbuf i l hl).2.1)
  have hil : i < bufs.length := (List.getElem?_eq_some_iff.1 hl).1
  have hil' : (i : Int) < (bufs.length : Int) := by omega
  have hi0 : (0 : Int) ≤ (i : Int) := by omega
  have h3' : (l.length : Int) < 3 := by omega
  unfold maxLen at hmx
  have hlen : ids.length + 1 ≤ cap := by rw [hids] at hcap; simpa using hcap
  clear hids hch h hcap
  go_enter Tryz.func119, Tryz.ntmps119
  go_wp2
  go_quiet (fail)
  go_wp2
  go_quiet (fail)
  go_wp2
  go_ret
  exact ⟨rfl, ((Dr.refl w).drewN _).drewN _⟩

/-- the last buffer of a chain, if there is one, is full -/
def Full (bufs : List (List Sp)) (ids : List Int) : Prop := ids = [] ∨ ∃ (pre : List Int) (i : Nat) (l : List Sp), ids = pre ++ [(i : Int)] ∧ bufs[i]? = some l ∧ ¬ l.length < 3

theorem last_full (F : Nat → Prop) (w : World) (p bb fb mb : Nat) (fv : Value) (C : List Value) (bufs : List (List Sp)) (E : List (Int × Chain)) (h : PoolR F w p bb fb mb fv C bufs [] E) (t : Int)
    (hfull : Full bufs (get E t noChain).2) :
    Calls Tryz.prog 119 #[.pointer (some ⟨p,0,none⟩), .int .i64 t] w fun e w' => e = .returned (.pointer none) ∧ Dr w w' := by
  have c0 := h.hp.get (i := 0) rfl
  have c1 := h.hp.get (i := 1) rfl
  have c2 := h.hp.get (i := 2) rfl
  have h1 := h.hm
  have hch := chain_of h t
  have hfs : ∃ a c, fv = .slice a 0 c := by
    rcases h.hf.shape with ⟨rfl, _⟩ | ⟨g, off, cap, rfl, _⟩
    · exact ⟨_, _, rfl⟩
    · exact ⟨_, _, rfl⟩
  obtain ⟨fa, fc, rfl⟩ := hfs
  rcases hfull with hids | ⟨pre, i, l, hids, hl, h3⟩
  · have hv : ∃ a c, (get E t noChain).1 = .slice a 0 c := by
      rw [hids] at hch
      rcases hch.shape with ⟨hv, _⟩ | ⟨g, off, cap, hv, _⟩
      · exact ⟨_, _, hv⟩
      · exact ⟨_, _, hv⟩
    obtain ⟨va, vc, hv⟩ := hv
    clear hids hch h
    go_enter Tryz.func119, Tryz.ntmps119
    go_wp2
    go_quiet (fail)
    go_wp2
    go_ret
    exact ⟨rfl, (Dr.refl w).drewN _⟩
  · obtain ⟨g, off, cap, hv, hg, hcap, hmx⟩ := hch.form (by rw [hids]; simp)
    rw [hids, List.length_append, List.length_singleton] at hv
    have hcell := hch.cells hv pre.length (.int .i64 i) (by rw [hids]; simp)
    have hb9 := h.hb.get ((h.hbuf i l hl).2.1)
    have hil : i < bufs.length := (List.getElem?_eq_some_iff.1 hl).1
    have hil' : (i : Int) < (bufs.length : Int) := by omega
    have hi0 : (0 : Int) ≤ (i : Int) := by omega
    have h3' : (3 : Int) ≤ (l.length : Int) := by omega
    unfold maxLen at hmx
    have hlen : pre.length + 1 ≤ cap := by rw [hids] at hcap; simpa using hcap
    clear hids hch h hcap h3
    go_enter Tryz.func119, Tryz.ntmps119
    go_wp2
    go_quiet (fail)
    go_wp2
    go_ret
    exact ⟨rfl, (Dr.refl w).drewN _⟩

theorem el_int : El Tryz.prog 53 3 1 8 := El.mk' (z := .int .i64 0) (by kernel_rfl) (by kernel_rfl) rfl (by decide)


/-- ten cells, set -/
def setTen (C : List Value) (a : Nat) (y0 y1 y2 y3 y4 y5 y6 y7 y8 y9 : Value) : List Value := ((((((((((C.set (a * 10) y0).set (a * 10 + 1) y1).set (a * 10 + 2) y2).set (a * 10 + 3) y3).set (a * 10 + 4) y4).set (a * 10 + 5) y5).set (a * 10 + 6) y6).set (a * 10 + 7) y7).set (a * 10 + 8) y8).set (a * 10 + 9) y9)
theorem setTen_far (C : List Value) (a : Nat) (y0 y1 y2 y3 y4 y5 y6 y7 y8 y9 : Value) (j : Nat) (h : j < a * 10 ∨ a * 10 + 10 ≤ j) : (setTen C a y0 y1 y2 y3 y4 y5 y6 y7 y8 y9)[j]? = C[j]? := by
  unfold setTen
  rw [List.getElem?_set_ne (by omega), List.getElem?_set_ne (by omega), List.getElem?_set_ne (by omega), List.getElem?_set_ne (by omega), List.getElem?_set_ne (by omega), List.getElem?_set_ne (by omega), List.getElem?_set_ne (by omega), List.getElem?_set_ne (by omega), List.getElem?_set_ne (by omega), List.getElem?_set_ne (by omega)]
theorem setTen_nine (C : List Value) (a : Nat) (y0 y1 y2 y3 y4 y5 y6 y7 y8 y9 : Value) (h : a * 10 + 9 < C.length) : (setTen C a y0 y1 y2 y3 y4 y5 y6 y7 y8 y9)[a * 10 + 9]? = some y9 := by
  unfold setTen
  rw [List.getElem?_set_self (by simpa using h)]
theorem setTen_length (C : List Value) (a : Nat) (y0 y1 y2 y3 y4 y5 y6 y7 y8 y9 : Value) : (setTen C a y0 y1 y2 y3 y4 y5 y6 y7 y8 y9).length = C.length := by simp [setTen]

theorem slice_tail {g off n cap : Nat} (hc : n + 1 ≤ cap) (hm : cap ≤ maxLen) :
    ∃ v', (∀ W, (Instr.slice 53 (.slice (some ⟨g, off, none⟩) (n + 1) cap) (some (.int .i64 1)) none none).run Tryz.prog W = .ok v' W) ∧ v'.ownBlock = some g ∧
      (∃ o c, v' = .slice (some ⟨g, o, none⟩) n c) ∧
      ∀ W x xs, Sl W 3 1 (.slice (some ⟨g, off, none⟩) (n + 1) cap) (n + 1) (x :: xs) → Sl W 3 1 v' n xs := by
  have hz : ∀ W : World, (sizeOf 3).run Tryz.prog W = .ok 1 W := fun _ => by kernel_rfl
  have hu : Tryz.prog.underlying 53 = some (.slice 3) := by kernel_rfl
  have hb : ∀ W : World, (Instr.sliceBounds true (n + 1) cap (some (.int .i64 1)) none none).run Tryz.prog W = .ok (1, n + 1, cap) W := by
    intro W
    have h1 : (1 : Int) ≤ ((n + 1 : Nat) : Int) := by omega
    have h2 : (0 : Int) ≤ 1 := by omega
    have h3 := fun (code : BoundsCode) => run_sliceBound (P := Tryz.prog) W .i64 1 (n + 1) code h2 h1
    simp only [Instr.sliceBounds, Sem.run_bind, Sem.run_pure, Result.andThen_ok, Option.isSome_none, h3]
    rfl
  unfold maxLen at hm
  by_cases c1 : cap = 1
  · subst c1
    obtain rfl : n = 0 := by omega
    refine ⟨.slice (some ⟨g, off, none⟩) 0 0, fun W => ?_, rfl, ⟨_, _, rfl⟩, fun W x xs h => ?_⟩
    · simp [Instr.slice, run_underlying hu, hb, hz]
    · obtain ⟨h1, h | ⟨g', o', cp, cur, hv, hg, h2, h3, h4, h5⟩⟩ := h
      · cases h.1
      · cases hv
        have hx : xs = [] := List.eq_nil_of_length_eq_zero (by simpa using h1)
        subst hx
        exact ⟨rfl, .inr ⟨g, off, 0, cur, rfl, hg, by omega, by unfold maxLen; omega, by omega, by simp⟩⟩
  · refine ⟨.slice (some ⟨g, off + 1, none⟩) n (cap - 1), fun W => ?_, rfl, ⟨_, _, rfl⟩, fun W x xs h => ?_⟩
    · simp [Instr.slice, run_underlying hu, hb, hz, c1, add_lit]
    · obtain ⟨h1, h | ⟨g', o', cp, cur, hv, hg, h2, h3, h4, h5⟩⟩ := h
      · cases h.1
      · cases hv
        refine ⟨by simpa using h1, .inr ⟨g, off + 1, cap - 1, cur, rfl, hg, by omega, by unfold maxLen; omega, by omega, ?_⟩⟩
        have := congrArg List.tail h5
        simp only [Nat.mul_one, List.tail_cons] at this
        rw [← this, Nat.mul_one, ← List.tail_drop]
        cases cur.toList.drop off <;> simp

theorem chain_ne {F : Nat → Prop} {w : World} {p bb fb mb : Nat} {fv : Value} {C : List Value} {bufs : List (List Sp)} {free : List Int} {E : List (Int × Chain)} (h : PoolR F w p bb fb mb fv C bufs free E) (t : Int)
    {y : Int × Chain} (hy : y ∈ E) (hn : y.1 ≠ t) {g : Nat} (hg : (get E t noChain).1.ownBlock = some g) : y.2.1.ownBlock ≠ some g := by
  cases hh : has E t with
  | false => rw [get_of_not hh] at hg; cases hg
  | true =>
    have hm := mem_of_has hh noChain
    have hne : (t, get E t noChain) ≠ y := by rintro rfl; exact hn rfl
    have := h.hne
    rcases List.mem_iff_append.1 hm with ⟨l1, l2, hl⟩
    rw [hl] at this hy
    rw [List.pairwise_append] at this
    rcases List.mem_append.1 hy with hy | hy
    · intro hy2
      exact (this.2.2 y hy _ (List.mem_cons_self ..)) g hy2 hg
    · rcases List.mem_cons.1 hy with rfl | hy
      · exact absurd rfl hne
      · exact (List.pairwise_cons.1 this.2.1).1 y hy g hg

theorem mem_put {α : Type} {L : List (Int × α)} {k : Int} {v : α} {y : Int × α} (h : y ∈ put L k v) : y = (k, v) ∨ (y ∈ L ∧ y.1 ≠ k) := by
  unfold put at h
  split at h
  · obtain ⟨q, hq, rfl⟩ := List.mem_map.1 h
    split
    · exact .inl rfl
    · next c => exact .inr ⟨hq, c⟩
  · next hh =>
    rcases List.mem_append.1 h with h | h
    · refine .inr ⟨h, ?_⟩
      intro e; exact hh (has_iff.2 (by rw [← e]; exact List.mem_map_of_mem h))
    · exact .inl (by simpa using h)

theorem put_pairwise {α : Type} {L : List (Int × α)} {R : Int × α → Int × α → Prop} (hs : ∀ a b, R a b → R b a) (h : L.Pairwise R) {k : Int} {v : α} (hn : ∀ y ∈ L, y.1 ≠ k → R y (k, v)) (hnd : (L.map (·.1)).Nodup) : (put L k v).Pairwise R := by
  unfold put
  split
  · next hh =>
    clear hh
    induction L with
    | nil => exact List.Pairwise.nil
    | cons x L ih =>
      simp only [List.map_cons, List.nodup_cons] at hnd
      rw [List.pairwise_cons] at h
      rw [List.map_cons, List.pairwise_cons]
      refine ⟨?_, ih h.2 (fun y hy => hn y (List.mem_cons_of_mem _ hy)) hnd.2⟩
      intro y hy
      obtain ⟨q, hq, rfl⟩ := List.mem_map.1 hy
      by_cases c : x.1 = k
      · have hqk : q.1 ≠ k := fun e => hnd.1 (by rw [c, ← e]; exact List.mem_map_of_mem hq)
        rw [if_pos c, if_neg hqk]; exact hs _ _ (hn q (List.mem_cons_of_mem _ hq) hqk)
      · rw [if_neg c]
        by_cases c2 : q.1 = k
        · rw [if_pos c2]; exact hn x (List.mem_cons_self ..) c
        · rw [if_neg c2]; exact h.1 q hq
  · next hh =>
    rw [List.pairwise_append]
    refine ⟨h, List.pairwise_singleton _ _, ?_⟩
    intro a ha b hb
    simp at hb; subst hb
    exact hn a ha (fun e => hh (has_iff.2 (by rw [← e]; exact List.mem_map_of_mem ha)))

theorem last_asm (F : Nat → Prop) (w : World) (p bb fb mb : Nat) (fv : Value) (C : List Value) (bufs : List (List Sp)) (a : Nat) (rest : List Int) (E : List (Int × Chain)) (h : PoolR F w p bb fb mb fv C bufs ((a : Int) :: rest) E) (t : Int)
    (ha : a < bufs.length) (hnd : (E.map (·.1)).Nodup) (n : Nat) (fv' : Value) (o : Obj) (hfo : fv'.ownBlock = fv.ownBlock) (hfs : ∀ W, Sl W 3 1 fv (rest.length + 1) (((a : Int) :: rest).map (Value.int .i64)) → Sl W 3 1 fv' rest.length (rest.map (Value.int .i64)))
    (w2 : World) (v' : Value) (hs2 : Sl w2 3 1 v' ((get E t noChain).2.length + 1) ((get E t noChain).2.map (Value.int .i64) ++ [.int .i64 a]))
    (hg2 : ((((w.drewN n).setCell ⟨p, 1, none⟩ fv').alloc o).drew).grownBy w2 (get E t noChain).1.ownBlock) (hb2 : v'.ownBlock = (get E t noChain).1.ownBlock ∨ v'.ownBlock = some (w.heap.size + 1)) (y0 y1 y2 y3 y4 y5 y6 y7 y8 y9 : Value) (h9 : y9 = .int .i64 0) :
    PoolR (gr F w (((((((((((w2.mput mb t v').setCell ⟨bb, a * 10, none⟩ y0).setCell ⟨bb, a * 10 + 1, none⟩ y1).setCell ⟨bb, a * 10 + 2, none⟩ y2).setCell ⟨bb, a * 10 + 3, none⟩ y3).setCell ⟨bb, a * 10 + 4, none⟩ y4).setCell ⟨bb, a * 10 + 5, none⟩ y5).setCell ⟨bb, a * 10 + 6, none⟩ y6).setCell ⟨bb, a * 10 + 7, none⟩ y7).setCell ⟨bb, a * 10 + 8, none⟩ y8).setCell ⟨bb, a * 10 + 9, none⟩ y9)) (((((((((((w2.mput mb t v').setCell ⟨bb, a * 10, none⟩ y0).setCell ⟨bb, a * 10 + 1, none⟩ y1).setCell ⟨bb, a * 10 + 2, none⟩ y2).setCell ⟨bb, a * 10 + 3, none⟩ y3).setCell ⟨bb, a * 10 + 4, none⟩ y4).setCell ⟨bb, a * 10 + 5, none⟩ y5).setCell ⟨bb, a * 10 + 6, none⟩ y6).setCell ⟨bb, a * 10 + 7, none⟩ y7).setCell ⟨bb, a * 10 + 8, none⟩ y8).setCell ⟨bb, a * 10 + 9, none⟩ y9) p bb fb mb fv' (setTen C a y0 y1 y2 y3 y4 y5 y6 y7 y8 y9) (bufs.set a []) rest (put E t (v', (get E t noChain).2 ++ [(a : Int)])) ∧ Fr F w (((((((((((w2.mput mb t v').setCell ⟨bb, a * 10, none⟩ y0).setCell ⟨bb, a * 10 + 1, none⟩ y1).setCell ⟨bb, a * 10 + 2, none⟩ y2).setCell ⟨bb, a * 10 + 3, none⟩ y3).setCell ⟨bb, a * 10 + 4, none⟩ y4).setCell ⟨bb, a * 10 + 5, none⟩ y5).setCell ⟨bb, a * 10 + 6, none⟩ y6).setCell ⟨bb, a * 10 + 7, none⟩ y7).setCell ⟨bb, a * 10 + 8, none⟩ y8).setCell ⟨bb, a * 10 + 9, none⟩ y9) := by
  have f0 : Fr (fun k => k = p) w ((w.drewN n).setCell ⟨p, 1, none⟩ fv') := ((Fr.refl (fun k => k = p) w).drewN n).setCell (p := ⟨p, 1, none⟩) (fun _ => rfl) _
  have f1 : Fr (fun k => k = p) w ((((w.drewN n).setCell ⟨p, 1, none⟩ fv').alloc o).drew) := (f0.alloc o).drew
  have f2 : Fr (fun k => k = p ∨ (get E t noChain).1.ownBlock = some k) w w2 := (f1.mono (fun _ _ h => .inl h)).grown hg2 (fun k _ e => .inr e)
  have f3 : Fr (fun k => k = p ∨ (get E t noChain).1.ownBlock = some k ∨ k = mb) w (w2.mput mb t v') := (f2.mono (fun _ _ h => by rcases h with h | h; exact .inl h; exact .inr (.inl h))).mput (fun _ => .inr (.inr rfl)) t v'
  have f4 : Fr (fun k => k = p ∨ (get E t noChain).1.ownBlock = some k ∨ k = mb ∨ k = bb) w (((((((((((w2.mput mb t v').setCell ⟨bb, a * 10, none⟩ y0).setCell ⟨bb, a * 10 + 1, none⟩ y1).setCell ⟨bb, a * 10 + 2, none⟩ y2).setCell ⟨bb, a * 10 + 3, none⟩ y3).setCell ⟨bb, a * 10 + 4, none⟩ y4).setCell ⟨bb, a * 10 + 5, none⟩ y5).setCell ⟨bb, a * 10 + 6, none⟩ y6).setCell ⟨bb, a * 10 + 7, none⟩ y7).setCell ⟨bb, a * 10 + 8, none⟩ y8).setCell ⟨bb, a * 10 + 9, none⟩ y9) := by
    have f3' := f3.mono (S' := fun k => k = p ∨ (get E t noChain).1.ownBlock = some k ∨ k = mb ∨ k = bb) (fun _ _ h => by rcases h with h | h | h; exact .inl h; exact .inr (.inl h); exact .inr (.inr (.inl h)))
    exact ((((((((((f3'.setCell (p := ⟨bb, a * 10, none⟩) (fun _ => .inr (.inr (.inr rfl))) y0).setCell (p := ⟨bb, a * 10 + 1, none⟩) (fun _ => .inr (.inr (.inr rfl))) y1).setCell (p := ⟨bb, a * 10 + 2, none⟩) (fun _ => .inr (.inr (.inr rfl))) y2).setCell (p := ⟨bb, a * 10 + 3, none⟩) (fun _ => .inr (.inr (.inr rfl))) y3).setCell (p := ⟨bb, a * 10 + 4, none⟩) (fun _ => .inr (.inr (.inr rfl))) y4).setCell (p := ⟨bb, a * 10 + 5, none⟩) (fun _ => .inr (.inr (.inr rfl))) y5).setCell (p := ⟨bb, a * 10 + 6, none⟩) (fun _ => .inr (.inr (.inr rfl))) y6).setCell (p := ⟨bb, a * 10 + 7, none⟩) (fun _ => .inr (.inr (.inr rfl))) y7).setCell (p := ⟨bb, a * 10 + 8, none⟩) (fun _ => .inr (.inr (.inr rfl))) y8).setCell (p := ⟨bb, a * 10 + 9, none⟩) (fun _ => .inr (.inr (.inr rfl))) y9)
  have hch := chain_of h t
  obtain ⟨ess, cks, hents, _⟩ := im_ents h.hm
  have np : (get E t noChain).1.ownBlock ≠ some p := hch.ne_blk h.hp (by decide)
  have nb : (get E t noChain).1.ownBlock ≠ some bb := hch.ne_blk h.hb (by decide)
  have nm : (get E t noChain).1.ownBlock ≠ some mb := hch.ne_ents hents
  have npb : p ≠ bb := h.hp.ne h.hb (by decide)
  have npm : p ≠ mb := h.hp.ne_map h.hm
  have nbm : bb ≠ mb := h.hb.ne_map h.hm
  have fF : ∀ g, (get E t noChain).1.ownBlock = some g → F g ∧ fv.ownBlock ≠ some g := by
    intro g hg
    cases hh : has E t with
    | false => rw [get_of_not hh] at hg; cases hg
    | true => exact (h.hE _ (mem_of_has hh noChain)).2 g hg
  have hsz2 : w.heap.size ≤ w2.heap.size := f2.size
  refine ⟨⟨?_, ?_, ?_, ?_, ?_, ?_, ?_, ?_, gr_in h.fp, gr_in h.fbb, gr_in h.fm, fun g hg => gr_in (h.ff g (by rw [← hfo]; exact hg)), h.bd.gr f4⟩, ?_⟩
  · have q : Blk w2 p _ _ := ((((h.hp.drewN n).set 1 fv').alloc o).drew).grown hg2 (by exact np)
    have q2 := q.mput mb t v'
    rw [List.length_set]
    exact ((((((((((q2.set_ne (p := ⟨bb, a * 10, none⟩) (fun e => npb e.symm) y0).set_ne (p := ⟨bb, a * 10 + 1, none⟩) (fun e => npb e.symm) y1).set_ne (p := ⟨bb, a * 10 + 2, none⟩) (fun e => npb e.symm) y2).set_ne (p := ⟨bb, a * 10 + 3, none⟩) (fun e => npb e.symm) y3).set_ne (p := ⟨bb, a * 10 + 4, none⟩) (fun e => npb e.symm) y4).set_ne (p := ⟨bb, a * 10 + 5, none⟩) (fun e => npb e.symm) y5).set_ne (p := ⟨bb, a * 10 + 6, none⟩) (fun e => npb e.symm) y6).set_ne (p := ⟨bb, a * 10 + 7, none⟩) (fun e => npb e.symm) y7).set_ne (p := ⟨bb, a * 10 + 8, none⟩) (fun e => npb e.symm) y8).set_ne (p := ⟨bb, a * 10 + 9, none⟩) (fun e => npb e.symm) y9)
  · have q : Blk w2 bb _ _ := ((((h.hb.drewN n).set_ne npb fv').alloc o).drew).grown hg2 (by exact nb)
    have q2 := q.mput mb t v'
    exact ((((((((((q2.set (a * 10) y0).set (a * 10 + 1) y1).set (a * 10 + 2) y2).set (a * 10 + 3) y3).set (a * 10 + 4) y4).set (a * 10 + 5) y5).set (a * 10 + 6) y6).set (a * 10 + 7) y7).set (a * 10 + 8) y8).set (a * 10 + 9) y9)
  · rw [setTen_length, List.length_set]; exact h.hC
  · intro i l hl
    by_cases e : i = a
    · subst e
      rw [List.getElem?_set_self ha] at hl
      cases hl
      exact ⟨by simp, by rw [setTen_nine _ _ _ _ _ _ _ _ _ _ _ _ (by have := h.hC; omega), h9]; rfl, fun j s hj => by simp at hj⟩
    · rw [List.getElem?_set_ne (fun e' => e e'.symm)] at hl
      obtain ⟨b1, b2, b3⟩ := h.hbuf i l hl
      refine ⟨b1, by rw [setTen_far _ _ _ _ _ _ _ _ _ _ _ _ _ (by omega)]; exact b2, fun j s hj => ?_⟩
      have hj3 : j < 3 := by have := (List.getElem?_eq_some_iff.1 hj).1; omega
      obtain ⟨q1, q2, q3⟩ := b3 j s hj
      exact ⟨by rw [setTen_far _ _ _ _ _ _ _ _ _ _ _ _ _ (by omega)]; exact q1, by rw [setTen_far _ _ _ _ _ _ _ _ _ _ _ _ _ (by omega)]; exact q2, by rw [setTen_far _ _ _ _ _ _ _ _ _ _ _ _ _ (by omega)]; exact q3⟩
  · refine (hfs w h.hf).fr f4 ?_
    intro g hg
    rw [hfo] at hg
    rintro (rfl | e | rfl | rfl)
    · exact h.hf.ne_blk h.hp (by decide) hg
    · exact (fF g e).2 hg
    · exact h.hf.ne_ents hents hg
    · exact h.hf.ne_blk h.hb (by decide) hg
  · have q : w2.im mb = some (mv Prod.fst E) := im_grown (m := mb) (by have := im_alloc (w := (w.drewN n).setCell ⟨p, 1, none⟩ fv') (m := mb) (x := mv Prod.fst E) (by simpa using h.hm) o; exact this) hg2 (by exact nm)
    have q2 := im_mput q t v'
    rw [show put (mv Prod.fst E) t v' = mv Prod.fst (put E t (v', (get E t noChain).2 ++ [(a : Int)])) from put_mv Prod.fst E t (v', (get E t noChain).2 ++ [(a : Int)])] at q2
    simpa using q2
  · intro y hy
    rcases mem_put hy with rfl | ⟨hy, hn⟩
    · refine ⟨?_, fun g hg => ?_⟩
      · have q := hs2
        have f5 : Fr (fun k => k = mb ∨ k = bb) w2 (((((((((((w2.mput mb t v').setCell ⟨bb, a * 10, none⟩ y0).setCell ⟨bb, a * 10 + 1, none⟩ y1).setCell ⟨bb, a * 10 + 2, none⟩ y2).setCell ⟨bb, a * 10 + 3, none⟩ y3).setCell ⟨bb, a * 10 + 4, none⟩ y4).setCell ⟨bb, a * 10 + 5, none⟩ y5).setCell ⟨bb, a * 10 + 6, none⟩ y6).setCell ⟨bb, a * 10 + 7, none⟩ y7).setCell ⟨bb, a * 10 + 8, none⟩ y8).setCell ⟨bb, a * 10 + 9, none⟩ y9) := by
          have f3' : Fr (fun k => k = mb ∨ k = bb) w2 (w2.mput mb t v') := (Fr.refl _ w2).mput (fun _ => .inl rfl) t v'
          exact ((((((((((f3'.setCell (p := ⟨bb, a * 10, none⟩) (fun _ => .inr rfl) y0).setCell (p := ⟨bb, a * 10 + 1, none⟩) (fun _ => .inr rfl) y1).setCell (p := ⟨bb, a * 10 + 2, none⟩) (fun _ => .inr rfl) y2).setCell (p := ⟨bb, a * 10 + 3, none⟩) (fun _ => .inr rfl) y3).setCell (p := ⟨bb, a * 10 + 4, none⟩) (fun _ => .inr rfl) y4).setCell (p := ⟨bb, a * 10 + 5, none⟩) (fun _ => .inr rfl) y5).setCell (p := ⟨bb, a * 10 + 6, none⟩) (fun _ => .inr rfl) y6).setCell (p := ⟨bb, a * 10 + 7, none⟩) (fun _ => .inr rfl) y7).setCell (p := ⟨bb, a * 10 + 8, none⟩) (fun _ => .inr rfl) y8).setCell (p := ⟨bb, a * 10 + 9, none⟩) (fun _ => .inr rfl) y9)
        have := q.fr f5 (by
          intro g hg
          rintro (rfl | rfl)
          · rcases hb2 with e | e
            · exact nm (by rw [← e]; exact hg)
            · rw [e] at hg; cases hg; have := im_lt h.hm; omega
          · rcases hb2 with e | e
            · exact nb (by rw [← e]; exact hg)
            · rw [e] at hg; cases hg; have := h.hb.lt; omega)
        simpa using this
      · rcases hb2 with e | e
        · obtain ⟨r1, r2⟩ := fF g (by rw [← e]; exact hg)
          exact ⟨gr_in r1, by rw [hfo]; exact r2⟩
        · simp only [e, Option.some.injEq] at hg; subst hg
          exact ⟨gr_new (by omega) (by have := hs2.lt e; simp; exact this), by rw [hfo]; intro e2; have := h.hf.lt e2; omega⟩
    · obtain ⟨r1, r2⟩ := h.hE y hy
      refine ⟨r1.fr f4 ?_, fun g hg => ⟨gr_in (r2 g hg).1, by rw [hfo]; exact (r2 g hg).2⟩⟩
      intro g hg
      rintro (rfl | e | rfl | rfl)
      · exact r1.ne_blk h.hp (by decide) hg
      · exact chain_ne h t hy hn e hg
      · exact r1.ne_ents hents hg
      · exact r1.ne_blk h.hb (by decide) hg
  · refine put_pairwise (fun x y hxy g h1 h2 => hxy g h2 h1) h.hne ?_ hnd
    intro y hy hn g hg he
    rcases hb2 with e | e
    · exact chain_ne h t hy hn (by rw [← e]; exact he) hg
    · rw [e] at he; cases he
      have := (h.hE y hy).1.lt hg; omega
  · refine f4.mono ?_
    rintro k _ (rfl | e | rfl | rfl)
    · exact h.fp
    · exact (fF k e).1
    · exact h.fm
    · exact h.fbb

def LastPost (F : Nat → Prop) (w : World) (p bb fb mb : Nat) (bufs : List (List Sp)) (a : Nat) (rest : List Int) (E : List (Int × Chain)) (t : Int) (e : Ending) (w' : World) : Prop :=
  e = .returned (.pointer (some ⟨bb, a * 10, none⟩)) ∧ ∃ fv' C' v', PoolR (gr F w w') w' p bb fb mb fv' C' (bufs.set a []) rest (put E t (v', (get E t noChain).2 ++ [(a : Int)])) ∧ Fr F w w'

set_option maxHeartbeats 2000000 in
theorem last_new (F : Nat → Prop) (w : World) (p bb fb mb : Nat) (fv : Value) (C : List Value) (bufs : List (List Sp)) (a : Nat) (rest : List Int) (E : List (Int × Chain)) (h : PoolR F w p bb fb mb fv C bufs ((a : Int) :: rest) E) (t : Int)
    (ha : a < bufs.length) (hfull : Full bufs (get E t noChain).2) (hnd : (E.map (·.1)).Nodup) (hsmall : (get E t noChain).2.length ≤ 1000) :
    Calls Tryz.prog 119 #[.pointer (some ⟨p,0,none⟩), .int .i64 t] w (LastPost F w p bb fb mb bufs a rest E t) := by
  have c0 := h.hp.get (i := 0) rfl
  have c1 := h.hp.get (i := 1) rfl
  have c2 := h.hp.get (i := 2) rfl
  have z1 := h.hp.frozen 1
  have h1 := h.hm
  have hch := chain_of h t
  obtain ⟨fg, fo, fc, rfl, hfg, hfc, hfm⟩ := h.hf.form (by simp)
  have cf := h.hf.cells rfl 0 (.int .i64 a) (by simp)
  simp only [List.length_cons] at c1 hfc
  simp only [Nat.add_zero] at cf
  obtain ⟨_, hsl, hob, ⟨fo', fc', rfl⟩, htl⟩ := slice_tail (off := fo) hfc hfm
  have ASM := last_asm F w p bb fb mb _ C bufs a rest E h t ha hnd
  have ha' : (a : Int) < (bufs.length : Int) := by omega
  have ha0 : (0 : Int) ≤ (a : Int) := by omega
  have hv : ∃ va vc, (get E t noChain).1 = .slice va (get E t noChain).2.length vc := by
    rcases hch.shape with ⟨hv, h0⟩ | ⟨g, off, cap, hv, _⟩
    · rw [h0]; exact ⟨_, _, hv⟩
    · exact ⟨_, _, hv⟩
  obtain ⟨va, vc, hv⟩ := hv
  unfold maxLen at hfm
  obtain ⟨m, hm⟩ : ∃ m, (get E t noChain).2.length = m := ⟨_, rfl⟩
  have HS : ∀ n u, Sl ((w.drewN n).setCell ⟨p, 1, none⟩ u) 3 1 (get E t noChain).1 m ((get E t noChain).2.map (Value.int .i64)) := by
    intro n u
    have := (hch.drewN n).setCell (p := ⟨p, 1, none⟩) ((hch.drewN n).ne_blk (h.hp.drewN n) (by decide)) u
    rwa [hm] at this
  have HI : ∀ n u, ((w.drewN n).setCell ⟨p, 1, none⟩ u).im mb = some (mv Prod.fst E) := by intro n u; simpa using h1
  have HB : ∀ n u, Blk ((w.drewN n).setCell ⟨p, 1, none⟩ u) p 192 [.slice (some ⟨bb, 0, none⟩) bufs.length bufs.length, u, .map (some mb)] := fun n u => (h.hp.drewN n).set 1 u
  have HC : ∀ n u, Blk ((w.drewN n).setCell ⟨p, 1, none⟩ u) bb 197 C := fun n u => (h.hb.drewN n).set_ne (h.hp.ne h.hb (by decide)) u
  obtain ⟨x0, hx0⟩ : ∃ x, C[a * 10]? = some x := ⟨_, List.getElem?_eq_getElem (by have := h.hC; omega)⟩
  obtain ⟨x1, hx1⟩ : ∃ x, C[a * 10 + 1]? = some x := ⟨_, List.getElem?_eq_getElem (by have := h.hC; omega)⟩
  obtain ⟨x2, hx2⟩ : ∃ x, C[a * 10 + 2]? = some x := ⟨_, List.getElem?_eq_getElem (by have := h.hC; omega)⟩
  obtain ⟨x3, hx3⟩ : ∃ x, C[a * 10 + 3]? = some x := ⟨_, List.getElem?_eq_getElem (by have := h.hC; omega)⟩
  obtain ⟨x4, hx4⟩ : ∃ x, C[a * 10 + 4]? = some x := ⟨_, List.getElem?_eq_getElem (by have := h.hC; omega)⟩
  obtain ⟨x5, hx5⟩ : ∃ x, C[a * 10 + 5]? = some x := ⟨_, List.getElem?_eq_getElem (by have := h.hC; omega)⟩
  obtain ⟨x6, hx6⟩ : ∃ x, C[a * 10 + 6]? = some x := ⟨_, List.getElem?_eq_getElem (by have := h.hC; omega)⟩
  obtain ⟨x7, hx7⟩ : ∃ x, C[a * 10 + 7]? = some x := ⟨_, List.getElem?_eq_getElem (by have := h.hC; omega)⟩
  obtain ⟨x8, hx8⟩ : ∃ x, C[a * 10 + 8]? = some x := ⟨_, List.getElem?_eq_getElem (by have := h.hC; omega)⟩
  obtain ⟨x9, hx9⟩ : ∃ x, C[a * 10 + 9]? = some x := ⟨_, List.getElem?_eq_getElem (by have := h.hC; omega)⟩
  have NP : Value.ownBlock (.slice va m vc) ≠ some p := by rw [← hm, ← hv]; exact hch.ne_blk h.hp (by decide)
  have NB : Value.ownBlock (.slice va m vc) ≠ some bb := by rw [← hm, ← hv]; exact hch.ne_blk h.hb (by decide)
  have HM : Value.ownBlock (.slice va m vc) ≠ some mb := by
    obtain ⟨es, ck, he, _⟩ := im_ents h1
    rw [← hm, ← hv]; exact hch.ne_ents he
  have npb := h.hp.ne h.hb (by decide)
  have nbp : bb ≠ p := fun e => npb e.symm
  have hEcl : ∀ {g off cap l : Nat}, (get E t noChain).1 = .slice (some ⟨g, off, none⟩) l cap → ∀ (j : Nat) (u : Value), ((get E t noChain).2.map (Value.int .i64))[j]? = some u → w.cell? ⟨g, off + j, none⟩ = some u := fun hv => hch.cells hv
  have hshape := hch.shape
  rw [hm] at hv hsmall hshape
  rw [hv] at HS
  have FIN : ∀ (n : Nat) (o : Obj) (w2 : World) (v' : Value), Sl w2 3 1 v' (m + 1) ((get E t noChain).2.map (Value.int .i64) ++ [.int .i64 a]) →
      ((((w.drewN n).setCell ⟨p, 1, none⟩ (.slice (some ⟨fg, fo', none⟩) rest.length fc')).alloc o).drew).grownBy w2 (Value.ownBlock (.slice va m vc)) → (v'.ownBlock = Value.ownBlock (.slice va m vc) ∨ v'.ownBlock = some (w.heap.size + 1)) →
      LastPost F w p bb fb mb bufs a rest E t (.returned (.pointer (some ⟨bb, a * 10, none⟩))) (((((((((((w2.mput mb t v').setCell ⟨bb, a * 10, none⟩ (.int .i64 0)).setCell ⟨bb, a * 10 + 1, none⟩ (.int .i64 0)).setCell ⟨bb, a * 10 + 2, none⟩ (.string ByteArray.empty)).setCell ⟨bb, a * 10 + 3, none⟩ (.int .i64 0)).setCell ⟨bb, a * 10 + 4, none⟩ (.int .i64 0)).setCell ⟨bb, a * 10 + 5, none⟩ (.string ByteArray.empty)).setCell ⟨bb, a * 10 + 6, none⟩ (.int .i64 0)).setCell ⟨bb, a * 10 + 7, none⟩ (.int .i64 0)).setCell ⟨bb, a * 10 + 8, none⟩ (.string ByteArray.empty)).setCell ⟨bb, a * 10 + 9, none⟩ (.int .i64 0)) := by
    intro n o w2 v' q1 q2 q3
    obtain ⟨r1, r2⟩ := ASM n _ o hob (fun W hW => htl W _ _ hW) w2 v' (by rw [hm]; exact q1) (by rw [hv]; exact q2) (by rw [hv]; exact q3) _ _ _ _ _ _ _ _ _ _ rfl
    exact ⟨rfl, _, _, _, r1, r2⟩
  have hfull' : Full bufs (get E t noChain).2 := hfull
  have h9 : ∀ i l, bufs[i]? = some l → w.cell? ⟨bb, i * 10 + 9, none⟩ = some (.int .i64 l.length) := fun i l hl => h.hb.get ((h.hbuf i l hl).2.1)
  clear ASM htl hob h
  rcases hfull with hids | ⟨pre, i, l, hids, hl, h3⟩
  · obtain rfl : m = 0 := by rw [← hm, hids]; rfl
    clear hEcl hshape hch hids hm hfull' h9
    go_enter Tryz.func119, Tryz.ntmps119
    go_wp2
    go_quiet (fail)
    go_wp2
    go_region_held3 (fun w' => w'.cell? ⟨p, 2, none⟩ = some (.map (some mb))) (first | exact (HB _ _).get (i := 2) rfl | exact ((HB _ _).alloc _).get (i := 2) rfl | exact k2 | (simp only [cell?_mput]; exact k2)) ((refine step_append_sl _ (by rfl) _ _ _ (by rfl) el_int (v := .slice va 0 vc) (n := 0) (by rfl) (by exact ((HS _ _).alloc _).drew) (m := 1) (news := [.int .i64 a]) (by rfl) (by exact (rd_one _ _ _ (by simp)).drew) (by rfl) (by simp [Value.oneCell']) (by omega) (by omega) ?_; intro v' w2 hs2 hg2 hb2 hn2; clear hn2; have hb3 : v'.ownBlock = Value.ownBlock (.slice va 0 vc) ∨ v'.ownBlock = some (w.heap.size + 1) := (by simpa using hb2); clear hb2; have him2 : w2.im mb = some (mv Prod.fst E) := im_grown (by simpa using im_alloc (HI _ _) _) hg2 (by exact HM); have hB2 := (((HB _ _).alloc _).drew).grown hg2 (by exact NP); have k0 := hB2.get (i := 0) rfl; have k2 := hB2.get (i := 2) rfl; have hC2 := (((HC _ _).alloc _).drew).grown hg2 (by exact NB); have q0 := hC2.get hx0; have q1 := hC2.get hx1; have q2 := hC2.get hx2; have q3 := hC2.get hx3; have q4 := hC2.get hx4; have q5 := hC2.get hx5; have q6 := hC2.get hx6; have q7 := hC2.get hx7; have q8 := hC2.get hx8; have q9 := hC2.get hx9; have f0 := hC2.frozen (a * 10); have f1 := hC2.frozen (a * 10 + 1); have f2 := hC2.frozen (a * 10 + 2); have f3 := hC2.frozen (a * 10 + 3); have f4 := hC2.frozen (a * 10 + 4); have f5 := hC2.frozen (a * 10 + 5); have f6 := hC2.frozen (a * 10 + 6); have f7 := hC2.frozen (a * 10 + 7); have f8 := hC2.frozen (a * 10 + 8); have f9 := hC2.frozen (a * 10 + 9)))
    have FIN2 := FIN _ _ _ _ hs2 hg2 hb3
    clear FIN HS HI HB HC c0 c1 c2 z1 h1 cf hv him2 k2 hs2 hg2 hb3 hB2 hC2 hsl
    go_wp2
    go_ret
    exact FIN2
  · have hm1 : m = pre.length + 1 := by rw [← hm, hids]; simp
    subst hm1
    obtain ⟨-, h0⟩ | ⟨g, off, cap, hv2, hg, hcap, hmx⟩ := hshape
    · omega
    have hva : va = some ⟨g, off, none⟩ ∧ vc = cap := by rw [hv] at hv2; cases hv2; exact ⟨rfl, rfl⟩
    obtain ⟨rfl, rfl⟩ := hva
    have hcell := hEcl hv pre.length (.int .i64 i) (by rw [hids]; simp)
    have hb9 := h9 i l hl
    have hil : i < bufs.length := (List.getElem?_eq_some_iff.1 hl).1
    have hil' : (i : Int) < (bufs.length : Int) := by omega
    have hi0 : (0 : Int) ≤ (i : Int) := by omega
    have h3' : (3 : Int) ≤ (l.length : Int) := by omega
    unfold maxLen at hmx
    clear hEcl hch hids hm hfull' h9 h3 hv2
    go_enter Tryz.func119, Tryz.ntmps119
    go_wp2
    go_quiet (fail)
    go_wp2
    go_region_held3 (fun w' => w'.cell? ⟨p, 2, none⟩ = some (.map (some mb))) (first | exact (HB _ _).get (i := 2) rfl | exact ((HB _ _).alloc _).get (i := 2) rfl | exact k2 | (simp only [cell?_mput]; exact k2)) ((refine step_append_sl _ (by rfl) _ _ _ (by rfl) el_int (v := .slice (some ⟨g, off, none⟩) (pre.length + 1) vc) (n := pre.length + 1) (by rfl) (by exact ((HS _ _).alloc _).drew) (m := 1) (news := [.int .i64 a]) (by rfl) (by exact (rd_one _ _ _ (by simp)).drew) (by rfl) (by simp [Value.oneCell']) (by omega) (by omega) ?_; intro v' w2 hs2 hg2 hb2 hn2; clear hn2; have hb3 : v'.ownBlock = Value.ownBlock (.slice (some ⟨g, off, none⟩) (pre.length + 1) vc) ∨ v'.ownBlock = some (w.heap.size + 1) := (by simpa using hb2); clear hb2; have him2 : w2.im mb = some (mv Prod.fst E) := im_grown (by simpa using im_alloc (HI _ _) _) hg2 (by exact HM); have hB2 := (((HB _ _).alloc _).drew).grown hg2 (by exact NP); have k0 := hB2.get (i := 0) rfl; have k2 := hB2.get (i := 2) rfl; have hC2 := (((HC _ _).alloc _).drew).grown hg2 (by exact NB); have q0 := hC2.get hx0; have q1 := hC2.get hx1; have q2 := hC2.get hx2; have q3 := hC2.get hx3; have q4 := hC2.get hx4; have q5 := hC2.get hx5; have q6 := hC2.get hx6; have q7 := hC2.get hx7; have q8 := hC2.get hx8; have q9 := hC2.get hx9; have f0 := hC2.frozen (a * 10); have f1 := hC2.frozen (a * 10 + 1); have f2 := hC2.frozen (a * 10 + 2); have f3 := hC2.frozen (a * 10 + 3); have f4 := hC2.frozen (a * 10 + 4); have f5 := hC2.frozen (a * 10 + 5); have f6 := hC2.frozen (a * 10 + 6); have f7 := hC2.frozen (a * 10 + 7); have f8 := hC2.frozen (a * 10 + 8); have f9 := hC2.frozen (a * 10 + 9)))
    have FIN2 := FIN _ _ _ _ hs2 hg2 hb3
    clear FIN HS HI HB HC c0 c1 c2 z1 h1 cf hv him2 k2 hs2 hg2 hb3 hB2 hC2 hsl
    go_wp2
    go_ret
    exact FIN2

end Go.Proofs.YtkjggglmemafgaaGreat
