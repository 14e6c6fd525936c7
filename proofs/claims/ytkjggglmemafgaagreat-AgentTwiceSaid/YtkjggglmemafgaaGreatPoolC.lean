import Derived.Test.YtkjggglmemafgaaGreatPoolB
namespace Go.Proofs.YtkjggglmemafgaaGreat
open Go Go.RowKit
set_option maxRecDepth 20000

/-! ### spoor/span.Right -/
def spOk (s : Sp) : Bool := decide (1 ≤ s.tr ∧ s.tr ≤ 65535 ∧ 1 ≤ s.sq ∧ s.sq ≤ 2147483648 ∧ s.tx.size ≤ 40)
theorem spOk_yes {s : Sp} (h1 : 1 ≤ s.tr) (h2 : s.tr ≤ 65535) (h3 : 1 ≤ s.sq) (h4 : s.sq ≤ 2147483648) (h5 : (s.tx.size : Int) ≤ 40) : spOk s = true := by simp [spOk]; omega
def agSp (s : Sp) : Value := .agg #[.int .i64 s.tr, .int .i64 s.sq, .string s.tx]
def RetB (b : Bool) (w : World) (e : Ending) (w' : World) : Prop := e = .returned (.bool b) ∧ Fr (fun _ => False) w w'

set_option maxHeartbeats 1000000 in
theorem span_right (s : Sp) (w : World) : Calls Tryz.prog 94 #[.agg #[.int .i64 s.tr, .int .i64 s.sq, .string s.tx]] w (RetB (spOk s) w) := by
  obtain ⟨tr, sq, tx⟩ := s
  have F0 : ∀ o, Fr (fun _ => False) w (w.alloc o) := fun o => (Fr.refl _ w).alloc o
  have key : ∀ b : Bool, (b = true ↔ (1 ≤ tr ∧ tr ≤ 65535 ∧ 1 ≤ sq ∧ sq ≤ 2147483648 ∧ (tx.size : Int) ≤ 40)) → spOk ⟨tr, sq, tx⟩ = b := by
    intro b hb; rw [Bool.eq_iff_iff, hb]; simp [spOk]; omega
  have K : Hid (∀ b : Bool, (b = true ↔ (1 ≤ tr ∧ tr ≤ 65535 ∧ 1 ≤ sq ∧ sq ≤ 2147483648 ∧ (tx.size : Int) ≤ 40)) → spOk ⟨tr, sq, tx⟩ = b) := key
  clear key
  simp only []
  obtain ⟨z, hz⟩ : ∃ z, tx.size = z := ⟨_, rfl⟩
  by_cases h1 : 1 ≤ tr
  · by_cases h2 : tr ≤ 65535
    · by_cases h3 : 1 ≤ sq
      · by_cases h4 : sq ≤ 2147483648
        · by_cases h5 : (tx.size : Int) ≤ 40
          · rw [K.out true (by simp; omega)]
            clear K hz
            go_enter Tryz.func94, Tryz.ntmps94
            go_wp2
            go_ret
            exact ⟨rfl, F0 _⟩
          · rw [K.out false (by simp; omega)]
            clear K hz
            go_enter Tryz.func94, Tryz.ntmps94
            go_wp2
            go_ret
            exact ⟨rfl, F0 _⟩
        · rw [K.out false (by simp; omega)]
          clear K hz
          go_enter Tryz.func94, Tryz.ntmps94
          go_wp2
          go_ret
          exact ⟨rfl, F0 _⟩
      · rw [K.out false (by simp; omega)]
        clear K hz
        go_enter Tryz.func94, Tryz.ntmps94
        go_wp2
        go_ret
        exact ⟨rfl, F0 _⟩
    · rw [K.out false (by simp; omega)]
      clear K hz
      go_enter Tryz.func94, Tryz.ntmps94
      go_wp2
      go_ret
      exact ⟨rfl, F0 _⟩
  · rw [K.out false (by simp; omega)]
    clear K hz
    go_enter Tryz.func94, Tryz.ntmps94
    go_wp2
    go_ret
    exact ⟨rfl, F0 _⟩

/-! ### the pool, as the document has it -/
structure PoolS where
  n : Nat
  m : List (Int × List Sp)
def bufsN (l : List Sp) : Nat := (l.length + 2) / 3
def PoolS.used (P : PoolS) : Nat := (P.m.map fun x => bufsN x.2).sum
def zSp : Sp := ⟨0, 0, ByteArray.empty⟩
def PoolS.write (P : PoolS) (t : Int) (s : ByteArray) : Sp × Int × PoolS :=
  if t < 1 ∨ 65535 < t ∨ 40 < s.size then (zSp, 1, P)
  else if (get P.m t []).length % 3 = 0 ∧ P.n = P.used then (zSp, 6, P)
  else (⟨t, (get P.m t []).length + 1, s⟩, 0, { P with m := putS P.m t (get P.m t [] ++ [⟨t, (get P.m t []).length + 1, s⟩]) })

def ChainOk (bufs : List (List Sp)) (ids : List Int) : Prop :=
  ∃ (pre : List Int) (i : Int), ids = pre ++ [i] ∧ (∀ x ∈ pre, (bufOf bufs x).length = 3) ∧ 1 ≤ (bufOf bufs i).length
structure PInv (bufs : List (List Sp)) (free : List Int) (E : List (Int × Chain)) (P : PoolS) : Prop where
  len : bufs.length = P.n
  small : P.n ≤ 16
  part : (free ++ E.flatMap (·.2.2)).Perm ((List.range P.n).map Int.ofNat)
  nodup : (E.map (·.1)).Nodup
  ok : ∀ x ∈ E, ChainOk bufs x.2.2
  abs : (E.map fun x => (x.1, spansOf bufs x.2.2)).Perm P.m
  srt : Srt P.m
  keys : ∀ x ∈ P.m, 1 ≤ x.1 ∧ x.1 ≤ 65535
def PoolA (F : Nat → Prop) (w : World) (p : Nat) (P : PoolS) : Prop :=
  ∃ bb mb fv C bufs free E, PoolR F w p bb 0 mb fv C bufs free E ∧ PInv bufs free E P

theorem PoolR.fr {F S : Nat → Prop} {w w' : World} {p bb fb mb : Nat} {fv : Value} {C : List Value} {bufs : List (List Sp)} {free : List Int} {E : List (Int × Chain)} (h : PoolR F w p bb fb mb fv C bufs free E) (hf : Fr S w w') (hs : ∀ k, F k → ¬ S k) : PoolR F w' p bb fb mb fv C bufs free E :=
  ⟨h.hp.fr hf (hs _ h.fp), h.hb.fr hf (hs _ h.fbb), h.hC, h.hbuf, h.hf.fr hf (fun g hg => hs _ (h.ff g hg)), hf.im h.hm (hs _ h.fm),
   fun x hx => ⟨(h.hE x hx).1.fr hf (fun g hg => hs _ ((h.hE x hx).2 g hg).1), (h.hE x hx).2⟩, h.hne, h.fp, h.fbb, h.fm, h.ff, h.bd.fr hf⟩
theorem PoolR.mono {F F' : Nat → Prop} {w : World} {p bb fb mb : Nat} {fv : Value} {C : List Value} {bufs : List (List Sp)} {free : List Int} {E : List (Int × Chain)} (h : PoolR F w p bb fb mb fv C bufs free E) (hf : ∀ k, F k → F' k) (bd : Bd F' w) : PoolR F' w p bb fb mb fv C bufs free E :=
  ⟨h.hp, h.hb, h.hC, h.hbuf, h.hf, h.hm, fun x hx => ⟨(h.hE x hx).1, fun g hg => ⟨hf _ ((h.hE x hx).2 g hg).1, ((h.hE x hx).2 g hg).2⟩⟩, h.hne, hf _ h.fp, hf _ h.fbb, hf _ h.fm, fun g hg => hf _ (h.ff g hg), bd⟩
theorem PoolA.fr {F S : Nat → Prop} {w w' : World} {p : Nat} {P : PoolS} (h : PoolA F w p P) (hf : Fr S w w') (hs : ∀ k, F k → ¬ S k) : PoolA F w' p P := by
  obtain ⟨bb, mb, fv, C, bufs, free, E, h1, h2⟩ := h
  exact ⟨bb, mb, fv, C, bufs, free, E, h1.fr hf hs, h2⟩
theorem PoolA.mono {F F' : Nat → Prop} {w : World} {p : Nat} {P : PoolS} (h : PoolA F w p P) (hf : ∀ k, F k → F' k) (bd : Bd F' w) : PoolA F' w p P := by
  obtain ⟨bb, mb, fv, C, bufs, free, E, h1, h2⟩ := h
  exact ⟨bb, mb, fv, C, bufs, free, E, h1.mono hf bd, h2⟩

theorem PoolA.bd {F : Nat → Prop} {w : World} {p : Nat} {P : PoolS} (h : PoolA F w p P) : Bd F w := by
  obtain ⟨bb, mb, fv, C, bufs, free, E, h1, h2⟩ := h
  exact h1.bd
/-- .. behind a call that left it alone -/
theorem PoolA.kept {F : Nat → Prop} {w w' : World} {p : Nat} {P : PoolS} (h : PoolA F w p P) (hf : Fr (fun _ => False) w w') : PoolA (gr F w w') w' p P :=
  (h.fr hf (fun _ _ h => h)).mono (fun _ => gr_in) (h.bd.gr hf)

/-! what the invariant gives -/
section
variable {bufs : List (List Sp)} {free : List Int} {E : List (Int × Chain)} {P : PoolS}
theorem PInv.mem_ids (h : PInv bufs free E P) {t : Int} {i : Int} (hi : i ∈ (get E t noChain).2) : 0 ≤ i ∧ i.toNat < bufs.length := by
  cases hh : has E t with
  | false => rw [get_of_not hh] at hi; cases hi
  | true =>
    have hm := mem_of_has hh noChain
    have : i ∈ free ++ E.flatMap (·.2.2) := List.mem_append_right _ (List.mem_flatMap.2 ⟨_, hm, hi⟩)
    rw [h.part.mem_iff] at this
    simp at this
    obtain ⟨a, ha, rfl⟩ := this
    rw [h.len]; simp; omega
theorem PInv.mem_free (h : PInv bufs free E P) {i : Int} (hi : i ∈ free) : 0 ≤ i ∧ i.toNat < bufs.length := by
  have : i ∈ free ++ E.flatMap (·.2.2) := List.mem_append_left _ hi
  rw [h.part.mem_iff] at this
  simp at this
  obtain ⟨a, ha, rfl⟩ := this
  rw [h.len]; simp; omega
theorem flatMap_len (E : List (Int × Chain)) {x : Int × Chain} (hx : x ∈ E) : x.2.2.length ≤ (E.flatMap (·.2.2)).length := by
  induction E with
  | nil => cases hx
  | cons a E ih =>
    simp only [List.flatMap_cons, List.length_append]
    rcases List.mem_cons.1 hx with rfl | hx
    · omega
    · have := ih hx; omega
theorem PInv.ids_small (h : PInv bufs free E P) (t : Int) : (get E t noChain).2.length ≤ 16 := by
  have hl := h.part.length_eq
  simp at hl
  cases hh : has E t with
  | false => rw [get_of_not hh]; simp [noChain]
  | true =>
    have := flatMap_len E (mem_of_has hh noChain)
    have hs := h.small
    simp only [List.length_flatMap] at this
    omega
theorem PInv.valid (h : PInv bufs free E P) (t : Int) : Valid bufs (get E t noChain).2 := ⟨by have := h.ids_small t; omega, fun _ hx => h.mem_ids hx⟩
theorem PInv.get_abs (h : PInv bufs free E P) (t : Int) : spansOf bufs (get E t noChain).2 = get P.m t [] := by
  rw [← get_perm h.abs h.srt.nodup]
  have := get_mv (fun c : Chain => spansOf bufs c.2) E t noChain
  exact this.symm
end

theorem pool_spansA (F : Nat → Prop) (w : World) (p : Nat) (P : PoolS) (h : PoolA F w p P) (t : Int) :
    Calls Tryz.prog 105 #[.pointer (some ⟨p,0,none⟩), .int .i64 t] w (NewSpans w (get P.m t [])) := by
  obtain ⟨bb, mb, fv, C, bufs, free, E, h1, h2⟩ := h
  have := pool_spans F w p bb 0 mb fv C bufs free E h1 t (h2.valid t)
  rwa [h2.get_abs] at this

end Go.Proofs.YtkjggglmemafgaaGreat
