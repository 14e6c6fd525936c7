import Derived.Test.YtkjggglmemafgaaGreatLay
import Derived.Test.YtkjggglmemafgaaGreatAl
import Derived.Test.YtkjggglmemafgaaGreatSlice
namespace Go.Proofs.YtkjggglmemafgaaGreat
open Go Go.RowKit Go.Maps Go.Sort Go.Shelf
set_option maxRecDepth 20000

/-! ### slices.Sorted(maps.Keys(m)), int keys -/
def I64 (x : Int) : Prop := -9223372036854775808 ≤ x ∧ x ≤ 9223372036854775807
theorem wf_i64 {x : Int} (h : I64 x) : (Lit.int .i64 x).wf = true := by
  obtain ⟨h1, h2⟩ := h
  exact WalkArith.wf_i64 ⟨h1, h2⟩

abbrev R0 : Value → Option (DataW Unit × List MemPlace) := fun _ => some (.lit (.bool true), [])

theorem own_of_im {w : World} {m : Nat} {L : List (Int × Value)} (h : w.im m = some L) (hk : ∀ p ∈ L, I64 p.1) (hs : L.length ≤ 1000000) :
    ∃ D : DataW Unit, w.ownsMap Tryz.prog 3 R0 m L.length D ∧ (intKeys D).Perm (L.map (·.1)) ∧ Maps.size D = L.length := by
  obtain ⟨es, ck, he, ⟨g1, g2, g3, g4⟩, rfl⟩ := im_ents h
  have hb := heap_of_ents he
  have hu : Tryz.prog.underlying 3 = some (.int .i64) := by kernel_rfl
  have hrd : ∀ x ∈ es, WideElems.rd Tryz.prog 3 R0 x = some (.int .i64 (keyI x), .lit (.bool true)) := by
    intro x hx
    have hkx := hk (keyI x, x.val) (List.mem_map_of_mem (f := fun e => (keyI e, e.val)) hx)
    have := key_of (List.all_eq_true.1 g1 x hx)
    have h2 := Maps.keyOf_int_mk hu (wf_i64 hkx)
    simp [WideElems.rd, this, h2]
  have hlen : es.length ≤ 1000000 := by simpa using hs
  refine ⟨.map (((es.toArray).toList.map (WideElems.rg Tryz.prog 3 R0)).foldr DataW.insert []), ⟨es.toArray, ck, hb, ⟨by simp [maxLen]; omega, ⟨by simpa using g4, by simpa using g3, ?_⟩, ?_⟩, by simp, rfl⟩, ?_, ?_⟩
  · have : es.map (·.key) = (es.map keyI).map (Value.int .i64) := by
      rw [List.map_map]; apply List.map_congr_left; intro x hx; exact key_of (List.all_eq_true.1 g1 x hx)
    simp only [this]
    exact List.pairwise_map.2 (g2.imp (fun {a b} hab e => hab (by simpa using e)))
  · intro x hx; exact ⟨_, hrd x (by simpa using hx)⟩
  · show (List.map (fun p : Lit × DataW Unit => Go.intOf p.1) _).Perm _
    refine ((WideShapes.sorted_perm _).map _).trans ?_
    rw [List.map_map, List.map_map]
    refine List.Perm.of_eq (List.map_congr_left ?_)
    intro x hx
    show Go.intOf (WideElems.rg Tryz.prog 3 R0 x).1 = keyI x
    rw [WideElems.rg_of (hrd x (by simpa using hx))]; rfl
  · show List.length _ = _
    rw [(WideShapes.sorted_perm _).length_eq]; simp

def keysOf {α : Type} (L : List (Int × α)) : List Int := (L.map (·.1)).mergeSort (fun x y => decide (x ≤ y))
/-- ints that a call answers: a slice of its own -/
def NewInts (w : World) (l : List Int) (e : Ending) (w' : World) : Prop :=
  ∃ v, e = .returned v ∧ Sl w' 3 1 v l.length (l.map (Value.int .i64)) ∧ (∀ g, v.ownBlock = some g → w.heap.size ≤ g) ∧ (v = .slice none 0 0 ↔ l = []) ∧ Fr (fun _ => False) w w'

theorem sortsI (m : Nat) : AnyZI.SortsIn Tryz.prog Tryz.sortedI_ren Fence.wide m :=
  ⟨fun blk off cap ss W hH hblk hsz => callsIn_wide.2 (AnyM.slices_Sort_int Tryz.sortI blk off cap ss W hH hblk hsz),
   fun p cap W => callsIn_wide.2 (AnyM.slices_Sort_int_none Tryz.sortI p cap W)⟩

theorem keys_chain (m : Nat) (w : World) : Calls Tryz.prog 137 #[.map (some m)] w fun e w' => e = .returned (.func (.func 149) #[] #[.pointer (some ⟨w.heap.size, 0, none⟩)]) ∧ w' = w.alloc (.cells #[.map (some m)] 148) :=
  callsIn_wide.1 (AnyZI.keys_in Tryz.keysChain Fence.wide 5 trivial rfl (some m) w)
theorem keys_held (m : Nat) (w : World) : Calls Tryz.prog 108 #[.map (some m)] w fun e w' => e = .returned (.func (.func 134) #[] #[.pointer (some ⟨w.heap.size, 0, none⟩)]) ∧ w' = w.alloc (.cells #[.map (some m)] 157) :=
  callsIn_wide.1 (AnyZI.keys_in Tryz.keysHeld Fence.wide 5 trivial rfl (some m) w)

theorem newInts_of {w w' : World} {v : Value} {ss l : List Int} (hp : ss.Perm l) (hS : w'.ownsRow w.heap.size 3 1 v ss.length ((ss.mergeSort (fun x y => decide (x ≤ y))).map encZ)) (hn : v = .slice none 0 0 ↔ ss = []) (hb : Below w.heap.size w w') :
    NewInts w (l.mergeSort (fun x y => decide (x ≤ y))) (.returned v) w' := by
  have he := mergeSort_of_perm_i hp
  have hl : (l.mergeSort (fun x y => decide (x ≤ y))).length = ss.length := by rw [List.length_mergeSort, hp.length_eq]
  refine ⟨v, rfl, ?_, fun g hg => (hS.lt g hg).1, ?_, Fr.below hb⟩
  · rw [hl]
    have := Sl.of_own hS
    rw [show (ss.mergeSort fun x y => decide (x ≤ y)) = l.mergeSort fun x y => decide (x ≤ y) from he] at this
    exact this
  · rw [hn]
    constructor
    · intro h; subst h; have := hp.length_eq; simp at this; simp [List.eq_nil_of_length_eq_zero this.symm]
    · intro h
      have : ss.length = 0 := by rw [← hl, h]; rfl
      exact List.eq_nil_of_length_eq_zero this

theorem sorted_chain (B m : Nat) (w : World) (L : List (Int × Value)) (hc : w.cell? ⟨B, 0, none⟩ = some (.map (some m))) (him : w.im m = some L) (hk : ∀ p ∈ L, I64 p.1) (hs : L.length ≤ 1000000) :
    Calls Tryz.prog 107 #[.func (.func 149) #[] #[.pointer (some ⟨B, 0, none⟩)]] w (NewInts w (keysOf L)) := by
  obtain ⟨D, hown, hperm, hsz⟩ := own_of_im him hk hs
  have hseq := AnyZI.keys_gives (ρ := Tryz.keysChain_ren) { Tryz.keysChain with } Fence.wide 2 trivial rfl (by omega) B m L.length D w (World.block_lt_of_cell? w _ hc) hc hown
  have cS := AnyZI.sorted_in Tryz.sortedI Fence.wide 5 trivial trivial trivial trivial rfl (by omega) (sortsI _) (enters_of Tryz.func133 (by kernel_rfl) rfl) 149 #[.pointer (some ⟨B, 0, none⟩)] trivial (enters_of Tryz.func149 (by kernel_rfl) rfl) _ _ (by rw [hsz]; simp [maxLen]; omega) (by rw [hsz]; omega) w hseq
  refine (callsIn_wide.1 cS).mono ?_
  rintro e w' ⟨v, ss, rfl, hS, hrow, hnil, hb⟩
  exact newInts_of (hS.trans hperm) hrow hnil hb
theorem sorted_held (B m : Nat) (w : World) (L : List (Int × Value)) (hc : w.cell? ⟨B, 0, none⟩ = some (.map (some m))) (him : w.im m = some L) (hk : ∀ p ∈ L, I64 p.1) (hs : L.length ≤ 1000000) :
    Calls Tryz.prog 107 #[.func (.func 134) #[] #[.pointer (some ⟨B, 0, none⟩)]] w (NewInts w (keysOf L)) := by
  obtain ⟨D, hown, hperm, hsz⟩ := own_of_im him hk hs
  have hseq := AnyZI.keys_gives (ρ := Tryz.keysHeld_ren) { Tryz.keysHeld with } Fence.wide 2 trivial rfl (by omega) B m L.length D w (World.block_lt_of_cell? w _ hc) hc hown
  have cS := AnyZI.sorted_in Tryz.sortedI Fence.wide 5 trivial trivial trivial trivial rfl (by omega) (sortsI _) (enters_of Tryz.func133 (by kernel_rfl) rfl) 134 #[.pointer (some ⟨B, 0, none⟩)] trivial (enters_of Tryz.func134 (by kernel_rfl) rfl) _ _ (by rw [hsz]; simp [maxLen]; omega) (by rw [hsz]; omega) w hseq
  refine (callsIn_wide.1 cS).mono ?_
  rintro e w' ⟨v, ss, rfl, hS, hrow, hnil, hb⟩
  exact newInts_of (hS.trans hperm) hrow hnil hb

/-- the keys of a sorted list, whatever order the map has them in -/
theorem keysOf_perm {α β : Type} {L : List (Int × α)} {A : List (Int × β)} (hp : (L.map (·.1)).Perm (A.map (·.1))) (hs : Srt A) : keysOf L = A.map (·.1) := by
  unfold keysOf
  have h1 := mergeSort_of_perm_i hp
  refine Eq.trans h1 ?_
  apply List.mergeSort_of_pairwise
  exact (List.pairwise_map.2 hs : (A.map (·.1)).Pairwise (· < ·)).imp (fun h => by simp; omega)
end Go.Proofs.YtkjggglmemafgaaGreat
