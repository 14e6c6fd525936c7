import Derived.WalkKit
import Derived.WalkLawsBesides
import Derived.WalkSpells
import Derived.RegionTactic
import Derived.ChangeAlike
import Derived.Outline
import Derived.Deep.QuietTactic
import Derived.BigQuiet
import Derived.Lib.Hide
import Derived.KernelRfl
import Derived.Laws.NewBlocks
namespace Go.Proofs.YtkjggglmemafgaaGreat
open Go Go.RowKit

/-- w' is w but for the blocks in S, and new ones. -/
structure Fr (S : Nat → Prop) (w w' : World) : Prop where
  os : w'.os = w.os
  tape : w'.tape = w.tape
  output : w'.output = w.output
  size : w.heap.size ≤ w'.heap.size
  block : ∀ k, k < w.heap.size → ¬ S k → w'.heap[k]? = w.heap[k]?

theorem Fr.refl (S : Nat → Prop) (w : World) : Fr S w w := ⟨rfl, rfl, rfl, Nat.le_refl _, fun _ _ _ => rfl⟩
theorem Fr.mono {S S' : Nat → Prop} {w w' : World} (h : Fr S w w') (hs : ∀ k, k < w.heap.size → S k → S' k) : Fr S' w w' :=
  ⟨h.os, h.tape, h.output, h.size, fun k hk hn => h.block k hk fun h' => hn (hs k hk h')⟩
theorem Fr.trans {S S' : Nat → Prop} {a b c : World} (h : Fr S a b) (k : Fr S' b c) (hs : ∀ k, k < a.heap.size → S' k → S k) : Fr S a c :=
  ⟨k.os.trans h.os, k.tape.trans h.tape, k.output.trans h.output, Nat.le_trans h.size k.size,
   fun i hi hn => (k.block i (Nat.lt_of_lt_of_le hi h.size) fun h' => hn (hs i hi h')).trans (h.block i hi hn)⟩
theorem Fr.drew {S : Nat → Prop} {a w : World} (h : Fr S a w) : Fr S a w.drew := ⟨h.os, h.tape, h.output, h.size, h.block⟩
theorem Fr.drewN {S : Nat → Prop} {a w : World} (h : Fr S a w) (n : Nat) : Fr S a (w.drewN n) := ⟨h.os, h.tape, h.output, h.size, h.block⟩
theorem Fr.alloc {S : Nat → Prop} {a w : World} (h : Fr S a w) (o : Obj) : Fr S a (w.alloc o) :=
  ⟨h.os, h.tape, h.output, by have := h.size; simp; omega, fun k hk hn => (Below.heap_alloc w o k (Nat.lt_of_lt_of_le hk h.size)).trans (h.block k hk hn)⟩
theorem Fr.setCell {S : Nat → Prop} {a w : World} (h : Fr S a w) {p : Addr} (hp : p.block < a.heap.size → S p.block) (u : Value) : Fr S a (w.setCell p u) :=
  ⟨h.os, h.tape, h.output, by have := h.size; simp [World.setCell]; omega, fun k hk hn => (Below.heap_setCell w p u k (fun e => hn (by subst e; exact hp hk))).trans (h.block k hk hn)⟩
theorem Fr.below {S : Nat → Prop} {w w' : World} (h : Below w.heap.size w w') : Fr S w w' := ⟨h.os, h.tape, h.output, h.size, fun k hk _ => h.block k hk⟩
theorem Fr.toBelow {S : Nat → Prop} {w w' : World} (h : Fr S w w') (hs : ∀ k, k < w.heap.size → ¬ S k) : Below w.heap.size w w' :=
  ⟨h.os, h.tape, h.output, h.size, fun k hk => h.block k hk (hs k hk)⟩
theorem Fr.grown {S : Nat → Prop} {a w w' : World} {row : Option Nat} (h : Fr S a w) (hg : w.grownBy w' row) (hr : ∀ k, k < a.heap.size → row = some k → S k) : Fr S a w' :=
  ⟨hg.os.trans h.os, hg.tape.trans h.tape, hg.output.trans h.output, Nat.le_trans h.size hg.size,
   fun k hk hn => (hg.block k (Nat.lt_of_lt_of_le hk h.size) fun e => hn (hr k hk e.symm)).trans (h.block k hk hn)⟩
theorem Fr.cell {S : Nat → Prop} {w w' : World} (h : Fr S w w') {p : Addr} (h1 : p.block < w.heap.size) (h2 : ¬ S p.block) : w'.cell? p = w.cell? p := World.cell?_of_block (h.block p.block h1 h2)
theorem Fr.frozen {S : Nat → Prop} {w w' : World} (h : Fr S w w') {p : Addr} (h1 : p.block < w.heap.size) (h2 : ¬ S p.block) : w'.frozen? p = w.frozen? p := World.frozen?_of_block (h.block p.block h1 h2)
theorem Fr.cell_some {S : Nat → Prop} {w w' : World} (h : Fr S w w') {p : Addr} {v : Value} (hc : w.cell? p = some v) (h2 : ¬ S p.block) : w'.cell? p = some v :=
  (h.cell (World.block_lt_of_cell? w p hc) h2).trans hc

/-! ### Maps, as lists of entries -/

def _root_.Go.World.ents (w : World) (m : Nat) : Option (List MapEntry × Nat) :=
  match w.heap[m]? with
  | some (.map es ck) => some (es.toList, ck)
  | _ => none

def _root_.Go.World.setMap (w : World) (m : Nat) (es : List MapEntry) (ck : Nat) : World :=
  match w.heap[m]? with
  | some (.map _ _) => { w with heap := w.heap.setIfInBounds m (.map es.toArray ck) }
  | _ => w

theorem ents_of_heap {w : World} {m : Nat} {es : Array MapEntry} {ck : Nat} (h : w.heap[m]? = some (.map es ck)) : w.ents m = some (es.toList, ck) := by simp [World.ents, h]
theorem heap_of_ents {w : World} {m : Nat} {es : List MapEntry} {ck : Nat} (h : w.ents m = some (es, ck)) : w.heap[m]? = some (.map es.toArray ck) := by
  unfold World.ents at h
  split at h
  · next h' => simp only [Option.some.injEq, Prod.mk.injEq] at h; obtain ⟨rfl, rfl⟩ := h; simpa using h'
  · cases h
theorem ents_lt {w : World} {m : Nat} {x} (h : w.ents m = some x) : m < w.heap.size := by
  obtain ⟨es, ck⟩ := x
  have := heap_of_ents h
  exact (Array.getElem?_eq_some_iff.1 this).1

@[simp, go_sem] theorem ents_drew (w : World) (m : Nat) : w.drew.ents m = w.ents m := rfl
@[simp, go_sem] theorem ents_drewN (w : World) (n m : Nat) : (w.drewN n).ents m = w.ents m := rfl
@[simp, go_sem] theorem ents_setCell (w : World) (a : Addr) (u : Value) (m : Nat) : (w.setCell a u).ents m = w.ents m := by
  simp only [World.ents, World.setCell, Array.getElem?_modify]
  by_cases h : a.block = m
  · cases hh : w.heap[m]? with
    | none => simp [h]
    | some o => cases o <;> simp [h]
  · simp [h]
theorem ents_alloc {w : World} {m : Nat} {x} (h : w.ents m = some x) (o : Obj) : (w.alloc o).ents m = some x := by
  have := ents_lt h
  rw [← h]; unfold World.ents; rw [Below.heap_alloc w o m this]

theorem setMap_of {w : World} {m : Nat} {x} (h : w.ents m = some x) (es : List MapEntry) (ck : Nat) : w.setMap m es ck = { w with heap := w.heap.setIfInBounds m (.map es.toArray ck) } := by
  obtain ⟨a, b⟩ := x
  simp [World.setMap, heap_of_ents h]
theorem setMap_heap (w : World) (m : Nat) (es : List MapEntry) (ck : Nat) (k : Nat) (h : k ≠ m) : (w.setMap m es ck).heap[k]? = w.heap[k]? := by
  unfold World.setMap; split
  · exact Array.getElem?_setIfInBounds_ne (fun e => h e.symm)
  · rfl
@[simp, go_sem] theorem size_setMap (w : World) (m : Nat) (es : List MapEntry) (ck : Nat) : (w.setMap m es ck).heap.size = w.heap.size := by
  unfold World.setMap; split <;> simp
@[simp, go_sem] theorem cell?_setMap (w : World) (m : Nat) (es : List MapEntry) (ck : Nat) (a : Addr) : (w.setMap m es ck).cell? a = w.cell? a := by
  by_cases h : a.block = m
  · unfold World.setMap
    split
    · next h' => 
      have hlt := (Array.getElem?_eq_some_iff.1 h').1
      rw [Array.getElem?_eq_getElem hlt] at h'; have h2 := Option.some.inj h'
      simp [World.cell?, h, h2, hlt]
    · rfl
  · simp only [World.cell?, setMap_heap w m es ck a.block h]
@[simp, go_sem] theorem frozen?_setMap (w : World) (m : Nat) (es : List MapEntry) (ck : Nat) (a : Addr) : (w.setMap m es ck).frozen? a = w.frozen? a := by
  by_cases h : a.block = m
  · unfold World.setMap
    split
    · next h' => 
      have hlt := (Array.getElem?_eq_some_iff.1 h').1
      rw [Array.getElem?_eq_getElem hlt] at h'; have h2 := Option.some.inj h'
      simp [World.frozen?, h, h2, hlt]
    · rfl
  · simp only [World.frozen?, setMap_heap w m es ck a.block h]
theorem ents_setMap_same {w : World} {m : Nat} {x} (h : w.ents m = some x) (es : List MapEntry) (ck : Nat) : (w.setMap m es ck).ents m = some (es, ck) := by
  rw [setMap_of h]; simp [World.ents, ents_lt h]
theorem ents_setMap_ne {w : World} {m m' : Nat} (h : m' ≠ m) (es : List MapEntry) (ck : Nat) : (w.setMap m es ck).ents m' = w.ents m' := by
  simp only [World.ents, setMap_heap w m es ck m' h]
theorem Fr.setMap {S : Nat → Prop} {a w : World} (h : Fr S a w) {m : Nat} (hp : m < a.heap.size → S m) (es : List MapEntry) (ck : Nat) : Fr S a (w.setMap m es ck) := by
  refine ⟨?_, ?_, ?_, by have := h.size; simp; omega, fun k hk hn => (setMap_heap w m es ck k (fun e => hn (by subst e; exact hp hk))).trans (h.block k hk hn)⟩ <;> unfold World.setMap <;> split <;> first | exact h.os | exact h.tape | exact h.output
theorem Fr.ents {S : Nat → Prop} {w w' : World} (h : Fr S w w') {m : Nat} {x} (hm : w.ents m = some x) (h2 : ¬ S m) : w'.ents m = some x := by
  rw [← hm]; simp only [World.ents, h.block m (ents_lt hm) h2]


/-! ### A block of cells, known whole -/
def Blk (w : World) (b : Nat) (T : TypeId) (cs : List Value) : Prop := w.heap[b]? = some (.cells cs.toArray T (0, 0))
section
variable {w : World} {b : Nat} {T : TypeId} {cs : List Value}
theorem Blk.lt (h : Blk w b T cs) : b < w.heap.size := (Array.getElem?_eq_some_iff.1 h).1
theorem Blk.cell (h : Blk w b T cs) (i : Nat) : w.cell? ⟨b, i, none⟩ = cs[i]? := by
  unfold Blk at h; simp [World.cell?, h]
theorem Blk.get (h : Blk w b T cs) {i : Nat} {v : Value} (hv : cs[i]? = some v) : w.cell? ⟨b, i, none⟩ = some v := (h.cell i).trans hv
theorem Blk.frozen (h : Blk w b T cs) (i : Nat) : w.frozen? ⟨b, i, none⟩ = false := by
  unfold Blk at h; simp [World.frozen?, h]
theorem Blk.set (h : Blk w b T cs) (i : Nat) (v : Value) : Blk (w.setCell ⟨b, i, none⟩ v) b T (cs.set i v) := by
  unfold Blk at h ⊢; simp [World.setCell, Array.getElem?_modify, h]
theorem Blk.set_ne (h : Blk w b T cs) {p : Addr} (hp : p.block ≠ b) (v : Value) : Blk (w.setCell p v) b T cs := (Below.heap_setCell w p v b (fun e => hp e.symm)).trans h
theorem Blk.alloc (h : Blk w b T cs) (o : Obj) : Blk (w.alloc o) b T cs := (Below.heap_alloc w o b h.lt).trans h
theorem Blk.drew (h : Blk w b T cs) : Blk w.drew b T cs := h
theorem Blk.drewN (h : Blk w b T cs) (n : Nat) : Blk (w.drewN n) b T cs := h
theorem Blk.new (w : World) (cs : List Value) (T : TypeId) : Blk (w.alloc (.cells cs.toArray T)) w.heap.size T cs := heap_alloc_new w _
theorem Blk.fr {S : Nat → Prop} {w' : World} (h : Blk w b T cs) (hf : Fr S w w') (hs : ¬ S b) : Blk w' b T cs := (hf.block b h.lt hs).trans h
theorem Blk.inj {T' : TypeId} {cs' : List Value} (h : Blk w b T cs) (h' : Blk w b T' cs') : cs = cs' := by
  unfold Blk at h h'; rw [h] at h'; simp at h'; exact h'.1
theorem Blk.ne {T' : TypeId} {cs' : List Value} {b' : Nat} (h : Blk w b T cs) (h' : Blk w b' T' cs') (hT : T ≠ T') : b ≠ b' := by
  rintro rfl; unfold Blk at h h'; rw [h] at h'; simp at h'; exact hT h'.2
theorem Blk.ents_none (h : Blk w b T cs) : w.ents b = none := by unfold Blk at h; simp [World.ents, h]
theorem Blk.setMap (h : Blk w b T cs) (m : Nat) (es : List MapEntry) (ck : Nat) : Blk (w.setMap m es ck) b T cs := by
  by_cases e : b = m
  · subst e; unfold Blk at h; simp [Blk, World.setMap, h]
  · exact (setMap_heap w m es ck b e).trans h
end

/-- the blocks in F, and those that w' has beyond w -/
def gr (F : Nat → Prop) (w w' : World) (k : Nat) : Prop := F k ∨ (w.heap.size ≤ k ∧ k < w'.heap.size)
/-- all blocks of F are there -/
def Bd (F : Nat → Prop) (w : World) : Prop := ∀ k, F k → k < w.heap.size
theorem gr_in {F : Nat → Prop} {w w' : World} {k : Nat} (h : F k) : gr F w w' k := .inl h
theorem gr_new {F : Nat → Prop} {w w' : World} {k : Nat} (h : w.heap.size ≤ k) (h' : k < w'.heap.size) : gr F w w' k := .inr ⟨h, h'⟩
theorem gr_old {F : Nat → Prop} {w w' : World} {k : Nat} (h : gr F w w' k) (hk : k < w.heap.size) : F k := h.resolve_right (by omega)
theorem Bd.fr {F S : Nat → Prop} {w w' : World} (h : Bd F w) (hf : Fr S w w') : Bd F w' := fun k hk => Nat.lt_of_lt_of_le (h k hk) hf.size
theorem Bd.gr {F S : Nat → Prop} {w w' : World} (h : Bd F w) (hf : Fr S w w') : Bd (gr F w w') w' := fun k hk => by
  rcases hk with hk | hk
  · exact Nat.lt_of_lt_of_le (h k hk) hf.size
  · exact hk.2

/-- answers have been drawn, no more -/
def Dr (w w' : World) : Prop := ∃ n, w' = w.drewN n
theorem Dr.refl (w : World) : Dr w w := ⟨0, rfl⟩
theorem Dr.drewN {w w' : World} (h : Dr w w') (n : Nat) : Dr w (w'.drewN n) := by
  obtain ⟨k, rfl⟩ := h
  exact ⟨k + n, by simp [World.drewN, Nat.add_assoc]⟩
theorem Dr.drew {w w' : World} (h : Dr w w') : Dr w w'.drew := by
  obtain ⟨k, rfl⟩ := h
  exact ⟨k + 1, by simp [World.drewN, World.drew, Nat.add_assoc]⟩
theorem Dr.trans {a b c : World} (h : Dr a b) (k : Dr b c) : Dr a c := by
  obtain ⟨n, rfl⟩ := k; exact h.drewN n
theorem Dr.fr {S : Nat → Prop} {w w' : World} (h : Dr w w') : Fr S w w' := by
  obtain ⟨n, rfl⟩ := h; exact (Fr.refl S w).drewN n

theorem Blk.grown {w w' : World} {row : Option Nat} {b : Nat} {T : TypeId} {cs : List Value} (h : Blk w b T cs) (hg : w.grownBy w' row) (hs : row ≠ some b) : Blk w' b T cs := (hg.block b h.lt (fun e => hs e.symm)).trans h
theorem ents_grown {w w' : World} {row : Option Nat} {m : Nat} {x} (h : w.ents m = some x) (hg : w.grownBy w' row) (hs : row ≠ some m) : w'.ents m = some x := by
  rw [← h]; simp only [World.ents, hg.block m (ents_lt h) (fun e => hs e.symm)]

end Go.Proofs.YtkjggglmemafgaaGreat
