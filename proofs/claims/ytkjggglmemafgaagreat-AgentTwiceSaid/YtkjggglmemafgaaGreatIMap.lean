import Derived.Test.YtkjggglmemafgaaGreatBase
import Derived.MapKept
import Derived.Carry
namespace Go.Proofs.YtkjggglmemafgaaGreat
open Go Go.RowKit

/-! ### Maps with int keys: 'w.im m': the entries, keys and values, in the map's own order -/
def isKey : MapEntry → Bool | ⟨.int .i64 _, _, _⟩ => true | _ => false
def keyI : MapEntry → Int | ⟨.int .i64 k, _, _⟩ => k | _ => 0
theorem key_of {e : MapEntry} (h : isKey e = true) : e.key = .int .i64 (keyI e) := by
  obtain ⟨k, v, b⟩ := e
  cases k with
  | int q x => cases q <;> first | rfl | cases h
  | _ => cases h

def Good (es : List MapEntry) (ck : Nat) : Prop := es.all isKey = true ∧ (es.map keyI).Nodup ∧ (es.map (·.born)).Nodup ∧ ∀ e ∈ es, e.born < ck
instance (es : List MapEntry) (ck : Nat) : Decidable (Good es ck) := by unfold Good; infer_instance

def _root_.Go.World.im (w : World) (m : Nat) : Option (List (Int × Value)) :=
  match w.ents m with
  | some (es, ck) => if Good es ck then some (es.map fun e => (keyI e, e.val)) else none
  | none => none

theorem im_ents {w : World} {m : Nat} {L : List (Int × Value)} (h : w.im m = some L) : ∃ es ck, w.ents m = some (es, ck) ∧ Good es ck ∧ L = es.map fun e => (keyI e, e.val) := by
  unfold World.im at h
  split at h
  · next es ck he =>
    split at h
    · next hg => exact ⟨es, ck, he, hg, (Option.some.inj h).symm⟩
    · cases h
  · cases h
theorem im_of {w : World} {m : Nat} {es : List MapEntry} {ck : Nat} (h : w.ents m = some (es, ck)) (hg : Good es ck) : w.im m = some (es.map fun e => (keyI e, e.val)) := by
  simp [World.im, h, hg]
theorem im_lt {w : World} {m : Nat} {x} (h : w.im m = some x) : m < w.heap.size := by
  obtain ⟨es, ck, he, _⟩ := im_ents h; exact ents_lt he
theorem im_congr {w w' : World} {m : Nat} (h : w'.ents m = w.ents m) : w'.im m = w.im m := by simp [World.im, h]
@[simp, go_sem] theorem im_drew (w : World) (m : Nat) : w.drew.im m = w.im m := rfl
@[simp, go_sem] theorem im_drewN (w : World) (n m : Nat) : (w.drewN n).im m = w.im m := rfl
@[simp, go_sem] theorem im_setCell (w : World) (a : Addr) (u : Value) (m : Nat) : (w.setCell a u).im m = w.im m := im_congr (ents_setCell w a u m)
theorem im_alloc {w : World} {m : Nat} {x} (h : w.im m = some x) (o : Obj) : (w.alloc o).im m = some x := by
  obtain ⟨es, ck, he, hg, rfl⟩ := im_ents h; exact im_of (ents_alloc he o) hg
theorem im_alloc_lt (w : World) (m : Nat) (h : m < w.heap.size) (o : Obj) : (w.alloc o).im m = w.im m := by
  unfold World.im World.ents; rw [Below.heap_alloc w o m h]
attribute [go_sem] im_alloc_lt
theorem im_made (w : World) : (w.alloc (.map #[] 0)).im w.heap.size = some [] := by
  exact im_of (es := []) (ck := 0) (ents_of_heap (es := #[]) (heap_alloc_new w _)) (by simp [Good])
theorem Fr.im {S : Nat → Prop} {w w' : World} (h : Fr S w w') {m : Nat} {x} (hm : w.im m = some x) (h2 : ¬ S m) : w'.im m = some x := by
  obtain ⟨es, ck, he, hg, rfl⟩ := im_ents hm; exact im_of (h.ents he h2) hg

/-- the value of a key -/
def get {α : Type} (L : List (Int × α)) (k : Int) (z : α) : α := ((L.find? fun p => p.1 == k).map (·.2)).getD z
def has {α : Type} (L : List (Int × α)) (k : Int) : Bool := L.any fun p => p.1 == k
def put {α : Type} (L : List (Int × α)) (k : Int) (v : α) : List (Int × α) :=
  if has L k then L.map (fun p => if p.1 = k then (k, v) else p) else L ++ [(k, v)]
def del {α : Type} (L : List (Int × α)) (k : Int) : List (Int × α) := L.filter fun p => !(p.1 == k)
/-- the values through a function -/
def mv {α β : Type} (f : α → β) (L : List (Int × α)) : List (Int × β) := L.map fun p => (p.1, f p.2)
section
variable {α β : Type} (f : α → β) (L : List (Int × α)) (k : Int)
theorem get_mv (z : α) : get (mv f L) k (f z) = f (get L k z) := by
  simp only [get, mv, List.find?_map, Function.comp_def]
  cases L.find? (fun p => p.1 == k) <;> simp
theorem has_mv : has (mv f L) k = has L k := by simp [has, mv, List.any_map, Function.comp_def]
theorem put_mv (v : α) : put (mv f L) k (f v) = mv f (put L k v) := by
  unfold put; rw [has_mv]; split
  · simp only [mv, List.map_map, Function.comp_def]; apply List.map_congr_left; intro p _; split <;> simp_all
  · simp [mv]
theorem del_mv : del (mv f L) k = mv f (del L k) := by simp [del, mv, List.filter_map, Function.comp_def]
theorem length_mv : (mv f L).length = L.length := by simp [mv]
end

def putE (es : List MapEntry) (ck : Nat) (k : Int) (v : Value) : List MapEntry × Nat :=
  match es.findIdx? (fun e => keyI e == k) with
  | some i => (es.modify i (fun e => { e with key := .int .i64 k, val := v }), ck)
  | none => (es ++ [⟨.int .i64 k, v, ck⟩], ck + 1)
def _root_.Go.World.mput (w : World) (m : Nat) (k : Int) (v : Value) : World :=
  match w.ents m with
  | some (es, ck) => if Good es ck then w.setMap m (putE es ck k v).1 (putE es ck k v).2 else w
  | none => w
def delE (es : List MapEntry) (k : Int) : List MapEntry := 
  match es.findIdx? (fun e => keyI e == k) with
  | some i => es.eraseIdx i
  | none => es
def _root_.Go.World.mdel (w : World) (m : Nat) (k : Int) : World :=
  match w.ents m with
  | some (es, ck) => if Good es ck then w.setMap m (delE es k) ck else w
  | none => w

theorem findNow_int (k : Int) : ∀ (es : List MapEntry) (i : Nat), es.all isKey = true →
    Instr.findNow (.int .i64) (.int .i64 k) es i = some ((es.findIdx? (fun e => keyI e == k)).map fun j => (i + j, (es[j]?.map (·.val)).getD undef))
  | [], i, _ => rfl
  | e :: es, i, h => by
    simp only [List.all_cons, Bool.and_eq_true] at h
    have hk := key_of h.1
    simp only [Instr.findNow, hk, Instr.sameNow]
    by_cases c : keyI e = k
    · simp [c, List.findIdx?_cons]
    · have c' : (k == keyI e) = false := by simp; exact fun e' => c e'.symm
      have c2 : (keyI e == k) = false := by simp [c]
      simp only [c', findNow_int k es (i + 1) h.2, List.findIdx?_cons, c2, Bool.false_eq_true, if_false, if_true]
      cases es.findIdx? (fun e => keyI e == k) with
      | none => rfl
      | some j => simp; omega

theorem get_find (es : List MapEntry) (k : Int) (z : Value) : get (es.map fun e => (keyI e, e.val)) k z = match es.findIdx? (fun e => keyI e == k) with | some j => (es[j]?.map (·.val)).getD undef | none => z := by
  induction es with
  | nil => rfl
  | cons e es ih =>
    simp only [get, List.map_cons, List.find?_cons, List.findIdx?_cons] at ih ⊢
    by_cases c : keyI e = k
    · simp [c]
    · have c2 : (keyI e == k) = false := by simp [c]
      simp only [c2, Bool.false_eq_true, if_false, ih]
      cases es.findIdx? (fun e => keyI e == k) <;> simp
theorem has_find (es : List MapEntry) (k : Int) : has (es.map fun e => (keyI e, e.val)) k = (es.findIdx? (fun e => keyI e == k)).isSome := by
  simp [has, List.any_map, Function.comp_def]

section runs
variable {P : Program} {T K E : TypeId} {z : Value}

theorem run_lookup_im (hT : P.underlying T = some (.map K E)) (hK : P.underlying K = some (.int .i64)) (hz : ∀ w, (zeroValue E).run P w = .ok z w) (w : World) (m : Nat) (k : Int) (co : Bool) (h : (w.im m).isSome = true) :
    (Instr.lookup T (.map (some m)) (.int .i64 k) co).run P w = .ok (if co then .tuple #[get ((w.im m).getD []) k z, .bool (has ((w.im m).getD []) k)] else get ((w.im m).getD []) k z) w := by
  obtain ⟨L, hL⟩ := Option.isSome_iff_exists.1 h
  obtain ⟨es, ck, he, hg, rfl⟩ := im_ents hL
  have hb := heap_of_ents he
  have hck : ∀ e, (Instr.checkKey e 10000 K (.int .i64 k)).run P w = .ok () w := fun e => MapKept.run_checkKey (n := 9999) hK (by simp [MapKept.IsKey]) e
  have hf := MapKept.run_findKey (P := P) (w := w) hK (findNow_int k es 0 hg.1)
  rw [hL]
  simp only [Instr.lookup, Sem.run_bind, run_underlying hT, Result.andThen_ok, MapKept.run_getObj_map hb, Sem.run_pure, hck, hf, Option.getD_some, get_find, has_find]
  cases hfi : es.findIdx? (fun e => keyI e == k) with
  | none => cases co <;> simp [hz]
  | some j => cases co <;> simp

theorem run_len_im (hT : P.underlying T = some (.map K E)) (w : World) (m : Nat) (ty : TypeId) (h : (w.im m).isSome = true) :
    (Builtin.len_ #[T] ty #[.map (some m)]).run P w = .ok (.int .i64 ((w.im m).getD []).length) w := by
  obtain ⟨L, hL⟩ := Option.isSome_iff_exists.1 h
  obtain ⟨es, ck, he, hg, rfl⟩ := im_ents hL
  have hb := heap_of_ents he
  rw [hL]
  simp [Builtin.len_, run_underlying hT, MapKept.run_getObj_map hb, Result.andThen, goInt]

theorem run_mapUpdate_im (hT : P.underlying T = some (.map K E)) (hK : P.underlying K = some (.int .i64)) (w : World) (m : Nat) (k : Int) (v : Value) (h : (w.im m).isSome = true) :
    (Instr.mapUpdate T (.map (some m)) (.int .i64 k) v).run P w = .ok () (w.mput m k v) := by
  obtain ⟨L, hL⟩ := Option.isSome_iff_exists.1 h
  obtain ⟨es, ck, he, hg, rfl⟩ := im_ents hL
  have hb := heap_of_ents he
  have hck : ∀ e, (Instr.checkKey e 10000 K (.int .i64 k)).run P w = .ok () w := fun e => MapKept.run_checkKey (n := 9999) hK (by simp [MapKept.IsKey]) e
  have hf := MapKept.run_findKey (P := P) (w := w) hK (findNow_int k es 0 hg.1)
  simp only [Instr.mapUpdate, Sem.run_bind, run_underlying hT, Result.andThen_ok, MapKept.run_getObj_map hb, hck, hf, World.mput, he, if_pos hg, putE]
  cases hfi : es.findIdx? (fun e => keyI e == k) with
  | none => simp [MapKept.run_setObj_map _ hb, setMap_of he]
  | some j =>
    have hj := (List.findIdx?_eq_some_iff_getElem.1 hfi)
    obtain ⟨hlt, hkj, _⟩ := hj
    have hkey : es[j].key = .int .i64 k := by
      rw [key_of (List.all_eq_true.1 hg.1 _ (List.getElem_mem hlt))]; simp at hkj; rw [hkj]
    have hs := MapKept.run_keyThatStays (P := P) (w := w) (d := .int .i64) (k := .int .i64 k) (by simp [MapKept.IsKey])
    simp [hlt, hkey, hs, MapKept.run_setObj_map _ hb, setMap_of he, Result.andThen]

theorem run_delete_im (hT : P.underlying T = some (.map K E)) (hK : P.underlying K = some (.int .i64)) (w : World) (m : Nat) (k : Int) (Tk ty : TypeId) (h : (w.im m).isSome = true) :
    (Builtin.delete_ #[T, Tk] ty #[.map (some m), .int .i64 k]).run P w = .ok (.tuple #[]) (w.mdel m k) := by
  obtain ⟨L, hL⟩ := Option.isSome_iff_exists.1 h
  obtain ⟨es, ck, he, hg, rfl⟩ := im_ents hL
  have hb := heap_of_ents he
  have hck : ∀ e, (Instr.checkKey e 10000 K (.int .i64 k)).run P w = .ok () w := fun e => MapKept.run_checkKey (n := 9999) hK (by simp [MapKept.IsKey]) e
  have hf := MapKept.run_findKey (P := P) (w := w) hK (findNow_int k es 0 hg.1)
  simp only [Builtin.delete_, Sem.run_bind, run_underlying hT, Result.andThen_ok, MapKept.run_getObj_map hb, hck, hf, World.mdel, he, if_pos hg, delE, List.getElem?_toArray, List.getElem?_cons_zero, List.getElem?_cons_succ]
  cases hfi : es.findIdx? (fun e => keyI e == k) with
  | none => simp [MapKept.run_setObj_map _ hb, setMap_of he, Result.andThen]
  | some j =>
    have hj := (List.findIdx?_eq_some_iff_getElem.1 hfi)
    obtain ⟨hlt, hkj, _⟩ := hj
    simp [MapKept.run_setObj_map _ hb, setMap_of he, Result.andThen, Array.eraseIdxIfInBounds, hlt]
end runs

/-! ### what the operations leave -/
theorem cell?_mput (w : World) (m : Nat) (k : Int) (v : Value) (a : Addr) : (w.mput m k v).cell? a = w.cell? a := by unfold World.mput; (repeat' split) <;> simp
theorem frozen?_mput (w : World) (m : Nat) (k : Int) (v : Value) (a : Addr) : (w.mput m k v).frozen? a = w.frozen? a := by unfold World.mput; (repeat' split) <;> simp
theorem size_mput (w : World) (m : Nat) (k : Int) (v : Value) : (w.mput m k v).heap.size = w.heap.size := by unfold World.mput; (repeat' split) <;> simp
theorem cell?_mdel (w : World) (m : Nat) (k : Int) (a : Addr) : (w.mdel m k).cell? a = w.cell? a := by unfold World.mdel; (repeat' split) <;> simp
theorem frozen?_mdel (w : World) (m : Nat) (k : Int) (a : Addr) : (w.mdel m k).frozen? a = w.frozen? a := by unfold World.mdel; (repeat' split) <;> simp
theorem size_mdel (w : World) (m : Nat) (k : Int) : (w.mdel m k).heap.size = w.heap.size := by unfold World.mdel; (repeat' split) <;> simp
attribute [simp, go_sem] cell?_mput frozen?_mput size_mput cell?_mdel frozen?_mdel size_mdel
theorem im_mput_ne {m m' : Nat} (h : m' ≠ m) (w : World) (k : Int) (v : Value) : (w.mput m k v).im m' = w.im m' := by
  unfold World.mput; split
  · split
    · exact im_congr (ents_setMap_ne h _ _)
    · rfl
  · rfl
theorem im_mdel_ne {m m' : Nat} (h : m' ≠ m) (w : World) (k : Int) : (w.mdel m k).im m' = w.im m' := by
  unfold World.mdel; split
  · split
    · exact im_congr (ents_setMap_ne h _ _)
    · rfl
  · rfl
theorem Fr.mput {S : Nat → Prop} {a w : World} (h : Fr S a w) {m : Nat} (hp : m < a.heap.size → S m) (k : Int) (v : Value) : Fr S a (w.mput m k v) := by
  unfold World.mput; split
  · split
    · exact h.setMap hp _ _
    · exact h
  · exact h
theorem Fr.mdel {S : Nat → Prop} {a w : World} (h : Fr S a w) {m : Nat} (hp : m < a.heap.size → S m) (k : Int) : Fr S a (w.mdel m k) := by
  unfold World.mdel; split
  · split
    · exact h.setMap hp _ _
    · exact h
  · exact h

theorem modify_map_one {es : List MapEntry} (_hg : es.all isKey = true) (hn : (es.map keyI).Nodup) {k : Int} {j : Nat} (hj : es.findIdx? (fun e => keyI e == k) = some j) (v : Value) :
    es.modify j (fun e => { e with key := .int .i64 k, val := v }) = es.map (fun e => if keyI e = k then { e with key := .int .i64 k, val := v } else e) := by
  obtain ⟨hlt, hkj, hlow⟩ := List.findIdx?_eq_some_iff_getElem.1 hj
  apply List.ext_getElem
  · simp
  · intro i h1 h2
    simp only [List.getElem_modify, List.getElem_map]
    by_cases e : j = i
    · subst e; simp at hkj; simp [hkj]
    · have hi0 : i < es.length := by simpa using h1
      have : keyI es[i] ≠ k := by
        intro he
        simp at hkj
        have hi : i < es.length := by simpa using h1
        have := (List.getElem_inj (i := i) (j := j) (h₀ := by simpa using hi) (h₁ := by simpa using hlt) hn).1 (by simp [he, hkj])
        exact e this.symm
      simp [e, this]

theorem im_mput {w : World} {m : Nat} {L : List (Int × Value)} (h : w.im m = some L) (k : Int) (v : Value) : (w.mput m k v).im m = some (put L k v) := by
  obtain ⟨es, ck, he, hg, rfl⟩ := im_ents h
  have hg0 := hg
  obtain ⟨g1, g2, g3, g4⟩ := hg
  simp only [World.mput, he, if_pos hg0]
  have hs := ents_setMap_same he (putE es ck k v).1 (putE es ck k v).2
  cases hf : es.findIdx? (fun e => keyI e == k) with
  | none =>
    have hp : putE es ck k v = (es ++ [⟨.int .i64 k, v, ck⟩], ck + 1) := by simp [putE, hf]
    rw [hp] at hs ⊢
    have hno : ∀ e ∈ es, keyI e ≠ k := by simpa using hf
    have hgood : Good (es ++ [⟨.int .i64 k, v, ck⟩]) (ck + 1) := by
      refine ⟨by simp_all [isKey], ?_, ?_, ?_⟩
      · simp only [List.map_append, List.map_cons, List.map_nil]
        rw [List.nodup_append]
        refine ⟨g2, by simp, ?_⟩
        intro a ha b hb
        simp [keyI] at ha hb; subst hb
        obtain ⟨e, he1, rfl⟩ := ha; exact hno e he1
      · simp only [List.map_append, List.map_cons, List.map_nil]
        rw [List.nodup_append]
        refine ⟨g3, by simp, ?_⟩
        intro a ha b hb
        simp at ha hb; subst hb
        obtain ⟨e, he1, rfl⟩ := ha; have := g4 e he1; omega
      · intro e hm; simp at hm; rcases hm with hm | rfl
        · have := g4 e hm; omega
        · simp
    rw [im_of hs hgood]
    have : has (es.map fun e => (keyI e, e.val)) k = false := by rw [has_find, hf]; rfl
    have h0 : keyI ⟨.int .i64 k, v, ck⟩ = k := rfl
    rw [put, this, if_neg (by simp), List.map_append, List.map_cons, List.map_nil, h0]
  | some j =>
    have hp : putE es ck k v = (es.map (fun e => if keyI e = k then { e with key := .int .i64 k, val := v } else e), ck) := by
      simp [putE, hf, modify_map_one g1 g2 hf v]
    rw [hp] at hs ⊢
    have hkk : ∀ e, keyI (if keyI e = k then { e with key := .int .i64 k, val := v } else e) = keyI e := by
      intro e; split <;> simp_all [keyI]
    have hbb : ∀ e : MapEntry, (if keyI e = k then { e with key := .int .i64 k, val := v } else e).born = e.born := by
      intro e; split <;> simp
    have hgood : Good (es.map (fun e => if keyI e = k then { e with key := .int .i64 k, val := v } else e)) ck := by
      refine ⟨?_, ?_, ?_, ?_⟩
      · simp only [List.all_map, List.all_eq_true, Function.comp]
        intro e hm; have := List.all_eq_true.1 g1 e hm
        split <;> simp_all [isKey]
      · simpa [List.map_map, Function.comp_def, hkk] using g2
      · simpa [List.map_map, Function.comp_def, hbb] using g3
      · intro e hm; simp only [List.mem_map] at hm; obtain ⟨e0, h0, rfl⟩ := hm; rw [hbb]; exact g4 e0 h0
    rw [im_of hs hgood]
    have : has (es.map fun e => (keyI e, e.val)) k = true := by rw [has_find, hf]; rfl
    simp only [put, this, if_true, List.map_map, Function.comp_def, hkk, Option.some.injEq]
    apply List.map_congr_left
    intro e hm
    by_cases c : keyI e = k <;> simp [c]

theorem eraseIdx_filter_one {es : List MapEntry} (hn : (es.map keyI).Nodup) {k : Int} {j : Nat} (hj : es.findIdx? (fun e => keyI e == k) = some j) :
    es.eraseIdx j = es.filter (fun e => !(keyI e == k)) := by
  induction es generalizing j with
  | nil => simp at hj
  | cons e es ih =>
    simp only [List.map_cons, List.nodup_cons] at hn
    by_cases c : keyI e = k
    · simp [List.findIdx?_cons, c] at hj; subst hj
      simp only [List.eraseIdx_zero, List.tail_cons, List.filter_cons, c, beq_self_eq_true, Bool.not_true, Bool.false_eq_true, if_false]
      rw [List.filter_eq_self.2]
      intro a ha; simp; intro h; exact hn.1 (by rw [c, ← h]; exact List.mem_map_of_mem ha)
    · have c2 : (keyI e == k) = false := by simp [c]
      rw [List.findIdx?_cons, c2] at hj
      simp at hj; obtain ⟨i, hi, rfl⟩ := hj
      simp [c, ih hn.2 hi]

theorem im_mdel {w : World} {m : Nat} {L : List (Int × Value)} (h : w.im m = some L) (k : Int) : (w.mdel m k).im m = some (del L k) := by
  obtain ⟨es, ck, he, hg, rfl⟩ := im_ents h
  have hg0 := hg
  obtain ⟨g1, g2, g3, g4⟩ := hg
  simp only [World.mdel, he, if_pos hg0]
  have hs := ents_setMap_same he (delE es k) ck
  have hp : delE es k = es.filter (fun e => !(keyI e == k)) := by
    unfold delE
    cases hf : es.findIdx? (fun e => keyI e == k) with
    | none =>
      have hno : ∀ e ∈ es, keyI e ≠ k := by simpa using hf
      simp only []
      rw [List.filter_eq_self.2]; intro a ha; simp [hno a ha]
    | some j => exact eraseIdx_filter_one g2 hf
  rw [hp] at hs ⊢
  have hgood : Good (es.filter (fun e => !(keyI e == k))) ck := by
    refine ⟨?_, ?_, ?_, ?_⟩
    · simp only [List.all_eq_true] at g1 ⊢; intro e hm; exact g1 e (List.mem_filter.1 hm).1
    · exact (List.filter_sublist.map keyI).nodup g2
    · exact (List.filter_sublist.map (fun e : MapEntry => e.born)).nodup g3
    · intro e hm; exact g4 e (List.mem_filter.1 hm).1
  rw [im_of hs hgood]
  simp [del, List.filter_map, Function.comp_def]


theorem Blk.mput {w : World} {b : Nat} {T : TypeId} {cs : List Value} (h : Blk w b T cs) (m : Nat) (k : Int) (v : Value) : Blk (w.mput m k v) b T cs := by
  unfold World.mput; split
  · split
    · exact h.setMap _ _ _
    · exact h
  · exact h
theorem Blk.mdel {w : World} {b : Nat} {T : TypeId} {cs : List Value} (h : Blk w b T cs) (m : Nat) (k : Int) : Blk (w.mdel m k) b T cs := by
  unfold World.mdel; split
  · split
    · exact h.setMap _ _ _
    · exact h
  · exact h

theorem im_grown {w w' : World} {row : Option Nat} {m : Nat} {x} (h : w.im m = some x) (hg : w.grownBy w' row) (hs : row ≠ some m) : w'.im m = some x := by
  obtain ⟨es, ck, he, hg', rfl⟩ := im_ents h; exact im_of (ents_grown he hg hs) hg'
theorem Blk.ne_map {w : World} {b m : Nat} {T : TypeId} {cs : List Value} {x} (h : Blk w b T cs) (hm : w.im m = some x) : b ≠ m := by
  rintro rfl
  obtain ⟨es, ck, he, _⟩ := im_ents hm
  rw [h.ents_none] at he; cases he

theorem setMap_drew (w : World) (m : Nat) (es : List MapEntry) (ck : Nat) : w.drew.setMap m es ck = (w.setMap m es ck).drew := by
  have h0 : ∀ k : Nat, w.drew.heap[k]? = w.heap[k]? := fun _ => rfl
  unfold World.setMap
  rw [h0]
  cases h : w.heap[m]? with
  | none => rfl
  | some o => cases o <;> rfl
theorem mput_drew (w : World) (m : Nat) (k : Int) (v : Value) : w.drew.mput m k v = (w.mput m k v).drew := by
  unfold World.mput; rw [ents_drew]; split
  · split
    · exact setMap_drew _ _ _ _
    · rfl
  · rfl
theorem mdel_drew (w : World) (m : Nat) (k : Int) : w.drew.mdel m k = (w.mdel m k).drew := by
  unfold World.mdel; rw [ents_drew]; split
  · split
    · exact setMap_drew _ _ _ _
    · rfl
  · rfl
theorem setMap_drewN (w : World) (n m : Nat) (es : List MapEntry) (ck : Nat) : (w.drewN n).setMap m es ck = (w.setMap m es ck).drewN n := by
  have h0 : ∀ k : Nat, (w.drewN n).heap[k]? = w.heap[k]? := fun _ => rfl
  unfold World.setMap
  rw [h0]
  cases h : w.heap[m]? with
  | none => rfl
  | some o => cases o <;> rfl
theorem mput_drewN (w : World) (n m : Nat) (k : Int) (v : Value) : (w.drewN n).mput m k v = (w.mput m k v).drewN n := by
  unfold World.mput; rw [ents_drewN]; split
  · split
    · exact setMap_drewN _ _ _ _ _
    · rfl
  · rfl
theorem mdel_drewN (w : World) (n m : Nat) (k : Int) : (w.drewN n).mdel m k = (w.mdel m k).drewN n := by
  unfold World.mdel; rw [ents_drewN]; split
  · split
    · exact setMap_drewN _ _ _ _ _
    · rfl
  · rfl
attribute [simp, go_sem] mput_drew mdel_drew mput_drewN mdel_drewN
theorem im_mput_map (w : World) (m : Nat) (k : Int) (v : Value) : (w.mput m k v).im m = (w.im m).map fun L => put L k v := by
  cases h : w.im m with
  | some L => rw [im_mput h]; rfl
  | none =>
    have : w.mput m k v = w := by
      unfold World.mput; split
      · next es ck he => rw [if_neg (fun hg => by rw [im_of he hg] at h; cases h)]
      · rfl
    rw [this, h]; rfl
theorem im_mdel_map (w : World) (m : Nat) (k : Int) : (w.mdel m k).im m = (w.im m).map fun L => del L k := by
  cases h : w.im m with
  | some L => rw [im_mdel h]; rfl
  | none =>
    have : w.mdel m k = w := by
      unfold World.mdel; split
      · next es ck he => rw [if_neg (fun hg => by rw [im_of he hg] at h; cases h)]
      · rfl
    rw [this, h]; rfl
theorem im_mput_other (w : World) (m m' : Nat) (k : Int) (v : Value) (h : m' ≠ m) : (w.mput m k v).im m' = w.im m' := im_mput_ne h w k v
theorem im_mdel_other (w : World) (m m' : Nat) (k : Int) (h : m' ≠ m) : (w.mdel m k).im m' = w.im m' := im_mdel_ne h w k
attribute [go_sem] im_mput_map im_mdel_map im_mput_other im_mdel_other
end Go.Proofs.YtkjggglmemafgaaGreat
