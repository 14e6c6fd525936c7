import Derived.Test.YtkjggglmemafgaaGreatLayI
import Derived.Test.YtkjggglmemafgaaGreatEvict
import Derived.Test.YtkjggglmemafgaaGreatSep
namespace Go.Proofs.YtkjggglmemafgaaGreat
open Go Go.RowKit Go.Shelf
set_option linter.unusedVariables false
set_option linter.unusedSimpArgs false
set_option maxRecDepth 20000

/-! ### slices.Insert, slices.BinarySearch at []int -/
def spl : List Value → Nat → List Value → List Value
  | cur, _, [] => cur
  | cur, o, v :: vs => spl (cur.set o v) (o + 1) vs
theorem spl_length : ∀ (vs cur : List Value) (o : Nat), (spl cur o vs).length = cur.length
  | [], _, _ => rfl
  | v :: vs, cur, o => by rw [spl, spl_length vs]; simp
theorem spl_eq : ∀ (vs cur : List Value) (o : Nat), o + vs.length ≤ cur.length → spl cur o vs = cur.take o ++ vs ++ cur.drop (o + vs.length)
  | [], cur, o, _ => by simp [spl]
  | v :: vs, cur, o, h => by
    simp only [List.length_cons] at h
    rw [spl, spl_eq vs (cur.set o v) (o + 1) (by simp; omega)]
    have h1 : (cur.set o v).take (o + 1) = cur.take o ++ [v] := by
      rw [List.take_add_one, List.take_set_of_le (Nat.le_refl _), List.getElem?_set_self (by omega)]; rfl
    have h2 : (cur.set o v).drop (o + 1 + vs.length) = cur.drop (o + (vs.length + 1)) := by
      rw [List.drop_set_of_lt (by omega)]; congr 1; omega
    rw [h1, h2]; simp
theorem heap_setCells : ∀ (vs : List Value) (o : Nat) (w : World) {b : Nat} {cur : Array Value} {e : TypeId}, w.heap[b]? = some (.cells cur e (0, 0)) → (w.setCells b o vs).heap[b]? = some (.cells (spl cur.toList o vs).toArray e (0, 0))
  | [], o, w, b, cur, e, h => by simpa [World.setCells, spl] using h
  | v :: vs, o, w, b, cur, e, h => by
    have h1 : (w.setCell ⟨b, o, none⟩ v).heap[b]? = some (.cells (cur.setIfInBounds o v) e (0, 0)) := by simp [World.setCell, Array.getElem?_modify, h]
    have h2 := heap_setCells vs (o + 1) (w.setCell ⟨b, o, none⟩ v) h1
    rw [World.setCells, h2, spl]; simp

/-- what the walk needs to know of it -/
def InsPost (w : World) (v : Value) (n : Nat) (xs : List Value) (e : Ending) (w' : World) : Prop :=
  ∃ v', e = .returned v' ∧ Sl w' 3 1 v' n xs ∧ w.grownBy w' v.ownBlock ∧ (v'.ownBlock = v.ownBlock ∨ v'.ownBlock = some w.heap.size)
theorem grownBy_of_fr {w w' : World} {row : Option Nat} (h : Fr (fun k => row = some k) w w') : w.grownBy w' row := ⟨h.os, h.tape, h.output, h.size, fun k hk hn => h.block k hk (fun e => hn e.symm)⟩
theorem slices_insert (w : World) (v : Value) (l : List Int) (i : Nat) (x : Int) (vb vc : Nat) (hi : i ≤ l.length) (hl : (l.length : Int) ≤ 100000) (hS : Sl w 3 1 v l.length (l.map (Value.int .i64))) (hB : Blk w vb 3 [.int .i64 x]) (hvb : v.ownBlock ≠ some vb) :
    Calls Tryz.prog 88 #[v, .int .i64 i, .slice (some ⟨vb, 0, none⟩) 1 vc] w (InsPost w v (l.length + 1) ((l.take i ++ x :: l.drop i).map (Value.int .i64))) := by
  have hx : ∀ (j : Nat) (u : Value), [Value.int .i64 x][j]? = some u → w.cell? ⟨vb, 0 + j, none⟩ = some u := fun j u hj => by rw [Nat.zero_add]; exact hB.get hj
  have h1x : ∀ u ∈ [Value.int .i64 x], u.oneCell' = true := by simp [Value.oneCell']
  have h1l : ∀ u ∈ l.map (Value.int .i64), u.oneCell' = true := by simp [Value.oneCell']
  have hold := hS
  obtain ⟨h0, ⟨rfl, hn⟩ | ⟨g, off, cap, cur, rfl, hg, hnc, hcm, hcs, htake⟩⟩ := hS
  · obtain rfl := List.eq_nil_of_length_eq_zero hn
    obtain rfl : i = 0 := by simpa using hi
    refine (Any2.slices_Insert_int_end_grow Tryz.insI none 0 0 vb 0 1 vc [] [.int .i64 x] w (by omega) (by omega) (by omega) (by omega) rfl rfl (fun _ => rfl) (fun a h => by cases h) hx h1x).mono ?_
    rintro e w' ⟨rfl, rfl⟩
    have hge := grownCap_ge w (0 + 1) 0 3
    have hm := grownCap_le_maxLen w (0 + 1) 0 3 (by unfold maxLen; omega)
    refine ⟨_, rfl, ⟨by simp, .inr ⟨_, 0, _, _, rfl, heap_alloc_new w.drew _, hge, hm, ?_, ?_⟩⟩, ⟨rfl, rfl, rfl, by simp, fun k hk _ => Below.heap_alloc w.drew _ k hk⟩, .inr rfl⟩
    · simp [size_zeroCells, Value.cells]; show _ ≤ _; first | omega | (have := hge; simp at this; omega)
    · simp
  · have hcells : ∀ (j : Nat) (u : Value), (l.map (Value.int .i64))[j]? = some u → w.cell? ⟨g, off + j, none⟩ = some u := fun j u hj => hold.cells rfl j u hj
    have hgl : g < w.heap.size := (Array.getElem?_eq_some_iff.1 hg).1
    have hne : vb ≠ g := fun e => hvb (by rw [e]; rfl)
    have hsome : ∀ k, k < off + cap → (w.cell? ⟨g, k, none⟩).isSome = true := fun k hk => by simp only [World.cell?, hg]; simp; omega
    have hfz : ∀ k, w.frozen? ⟨g, k, none⟩ = false := fun k => hold.free rfl k
    unfold maxLen at hcm
    by_cases hin : i = l.length
    · subst hin
      by_cases hroom : l.length + 1 ≤ cap
      · refine (Any2.slices_Insert_int_end_room Tryz.insI g off l.length cap vb 0 1 vc [.int .i64 x] w (by omega) hroom (by omega) rfl (fun j hj => hsome _ (by omega)) (fun j hj => hfz _) hx h1x).mono ?_
        rintro e w' ⟨rfl, rfl⟩
        have hF : Fr (fun k => k = g) w (w.setCells g (off + l.length) [.int .i64 x]) := (Fr.refl (fun k => k = g) w).setCells (fun _ => rfl) _ _
        refine ⟨_, rfl, ⟨by simp, .inr ⟨g, off, cap, _, rfl, heap_setCells _ _ w hg, by omega, by unfold maxLen; omega, by simp only [List.size_toArray, spl_length, Array.length_toList]; exact hcs, ?_⟩⟩, grownBy_of_fr (hF.mono fun k _ e => by rw [e]; rfl), .inl rfl⟩
        rw [spl_eq _ _ _ (by simp; omega)]
        have e1 : cur.toList.take (off + l.length) = cur.toList.take off ++ l.map (Value.int .i64) := by rw [List.take_add, ← htake, Nat.mul_one]
        have e2 : (cur.toList.take off).length = off := by simp; omega
        rw [e1, List.append_assoc, List.append_assoc, List.drop_append_of_le_length (by omega), List.drop_eq_nil_of_le (by omega), List.nil_append]
        rw [List.take_of_length_le (Nat.le_refl l.length), List.drop_eq_nil_of_le (Nat.le_refl l.length), List.map_append]
        rw [← List.append_assoc, List.take_append_of_le_length (by simp), List.take_of_length_le (by simp)]; rfl
      · refine (Any2.slices_Insert_int_end_grow Tryz.insI (some ⟨g, off, none⟩) l.length cap vb 0 1 vc (l.map (Value.int .i64)) [.int .i64 x] w (by omega) hnc (by omega) (by omega) (by simp) rfl (fun h => by cases h) (fun a h j u hj => by cases h; rw [add_lit]; exact hcells j u hj) hx h1x).mono ?_
        rintro e w' ⟨rfl, rfl⟩
        have hge := grownCap_ge w (l.length + 1) cap (Tryz.insI_ren.t 3)
        have hm := grownCap_le_maxLen w (l.length + 1) cap (Tryz.insI_ren.t 3) (by unfold maxLen; omega)
        generalize grownCap w (l.length + 1) cap (Tryz.insI_ren.t 3) = G at hge hm
        refine ⟨_, rfl, ⟨by simp, .inr ⟨_, 0, _, _, rfl, heap_alloc_new w.drew _, hge, hm, ?_, ?_⟩⟩, ⟨rfl, rfl, rfl, by simp, fun k hk _ => Below.heap_alloc w.drew _ k hk⟩, .inr rfl⟩
        · simp only [Array.size_append, List.size_toArray, List.length_append, List.length_map, List.length_singleton, size_zeroCells, Value.cells]; simp; omega
        · simp only [Nat.mul_one, List.drop_zero, Array.toList_append, List.toList_toArray, List.append_assoc]
          rw [List.take_of_length_le (Nat.le_refl l.length), List.drop_eq_nil_of_le (Nat.le_refl l.length), List.map_append, ← List.append_assoc, List.take_append_of_le_length (by simp), List.take_of_length_le (by simp)]; rfl
    · have hilt : i < l.length := by omega
      have hlen1 : (l.map (Value.int .i64)).length = l.length := by simp
      by_cases hroom : l.length + 1 ≤ cap
      · have hsh : w.shape? vb = some (3, 1) := by unfold Blk at hB; simp [World.shape?, hB]
        have hsg : w.shape? g = some (3, cur.size) := by simp [World.shape?, hg]
        refine (Any2.slices_Insert_int_shift Tryz.insI g off l.length cap i vb 0 1 vc (l.map (Value.int .i64)) [.int .i64 x] w hilt (by omega) hroom (by omega) hne (by simp) rfl hcells (fun j hj => hsome _ (by omega)) (fun j hj => hfz _) hx h1l h1x _ _ _ _ hsh hsg (by omega) (hB.frozen 0) (hB.frozen 1)).mono ?_
        rintro e w' ⟨rfl, rfl⟩
        have hF : Fr (fun k => k = g) w ((w.drew.setCells g (off + (i + 1)) ((l.map (Value.int .i64)).drop i)).setCells g (off + i) [.int .i64 x]) := (((Fr.refl (fun k => k = g) w).drew).setCells (fun _ => rfl) _ _).setCells (fun _ => rfl) _ _
        refine ⟨_, rfl, ⟨by simp; omega, .inr ⟨g, off, cap, _, rfl, heap_setCells _ _ _ (heap_setCells _ _ w.drew hg), by omega, by unfold maxLen; omega, by simp only [List.size_toArray, spl_length, Array.length_toList]; exact hcs, ?_⟩⟩, grownBy_of_fr (hF.mono fun k _ e => by rw [e]; rfl), .inl rfl⟩
        simp only [List.toList_toArray]
        have e0 : cur.toList.length = cur.size := by simp
        rw [spl_eq _ _ _ (by rw [spl_length, e0]; simp; omega), spl_eq _ _ _ (by rw [e0]; simp; omega)]
        have e1 : cur.toList.take (off + (i + 1)) = cur.toList.take off ++ (cur.toList.drop off).take (i + 1) := List.take_add
        have e2 : (cur.toList.take off).length = off := by simp; omega
        have e3 : (cur.toList.drop off).take i = (l.take i).map (Value.int .i64) := by
          rw [List.map_take, ← htake, Nat.mul_one, List.take_take, Nat.min_eq_left (by omega)]
        have e4 : ((cur.toList.drop off).take (i + 1)).length = i + 1 := by simp; omega
        have h3 : ((l.map (Value.int .i64)).drop i) = (l.drop i).map (Value.int .i64) := by rw [List.map_drop]
        rw [h3, e1]
        generalize hT : cur.toList.drop (off + (i + 1) + ((l.drop i).map (Value.int .i64)).length) = T
        have e5 : (cur.toList.take off ++ (cur.toList.drop off).take (i + 1) ++ (l.drop i).map (Value.int .i64) ++ T).take (off + i) = cur.toList.take off ++ (l.take i).map (Value.int .i64) := by
          rw [List.append_assoc, List.append_assoc, List.take_append, e2, List.take_of_length_le (by omega), show off + i - off = i by omega, List.take_append_of_le_length (by omega), List.take_take, Nat.min_eq_left (by omega), e3]
        have e6 : (cur.toList.take off ++ (cur.toList.drop off).take (i + 1) ++ (l.drop i).map (Value.int .i64) ++ T).drop (off + i + [Value.int .i64 x].length) = (l.drop i).map (Value.int .i64) ++ T := by
          rw [List.append_assoc (cur.toList.take off ++ _), List.drop_append_of_le_length (by rw [List.length_append, e2, e4]; simp; omega), List.drop_eq_nil_of_le (by rw [List.length_append, e2, e4]; simp; omega), List.nil_append]
        rw [e5, e6]
        rw [List.append_assoc, List.append_assoc, List.drop_append_of_le_length (by omega), List.drop_eq_nil_of_le (by omega), List.nil_append]
        rw [← List.append_assoc, ← List.append_assoc, List.take_append_of_le_length (by simp; omega), List.take_of_length_le (by simp; omega)]
        simp
      · refine (Any2.slices_Insert_int_grow Tryz.insI g off l.length cap i vb 0 1 vc (l.map (Value.int .i64)) [.int .i64 x] w hilt (by omega) hnc (by omega) (by omega) (by simp) rfl hcells hx h1l h1x).mono ?_
        rintro e w' ⟨rfl, rfl⟩
        have hge := grownCap_ge w (l.length + 1) cap 3
        have hm := grownCap_le_maxLen w (l.length + 1) cap 3 (by unfold maxLen; omega)
        generalize hGC : grownCap w (l.length + 1) cap 3 = G at hge hm
        have hGC' : grownCap w (l.length + 1) cap (Tryz.insI_ren.t 3) = G := hGC
        rw [hGC']
        generalize hZ : ((l.map (Value.int .i64)).take i).toArray ++ Builtin.zeroCells (Value.int .i64 0).cells (l.length + 1 - i) ++ Builtin.zeroCells (Value.int .i64 0).cells (G - (l.length + 1)) = Z
        have hZs : Z.size = G := by rw [← hZ]; simp [size_zeroCells, Value.cells]; omega
        have hZt : Z.toList.take i = (l.take i).map (Value.int .i64) := by
          rw [← hZ]; simp only [Array.toList_append, List.append_assoc]
          rw [List.take_append_of_le_length (by simp; omega), List.take_take, Nat.min_self, List.map_take]
        have hh := heap_setCells ((l.map (Value.int .i64)).drop i) (i + 1) (((w.alloc (.cells Z 3)).drew.setCells w.heap.size i [.int .i64 x]).drew) (heap_setCells [.int .i64 x] i ((w.alloc (.cells Z 3)).drew) (b := w.heap.size) (heap_alloc_new w _))
        have hF : Fr (fun k => k = w.heap.size) w ((((w.alloc (.cells Z 3)).drew.setCells w.heap.size i [.int .i64 x]).drew).setCells w.heap.size (i + 1) ((l.map (Value.int .i64)).drop i)) := (((((Fr.refl (fun k => k = w.heap.size) w).alloc _).drew).setCells (fun _ => rfl) _ _).drew).setCells (fun _ => rfl) _ _
        refine ⟨_, rfl, ⟨by simp; omega, .inr ⟨w.heap.size, 0, G, _, rfl, hh, hge, hm, by simp [spl_length, hZs], ?_⟩⟩, grownBy_of_fr (hF.mono fun k hk e => by omega), .inr rfl⟩
        simp only [List.toList_toArray, List.drop_zero]
        have e0 : Z.toList.length = Z.size := by simp
        rw [spl_eq _ _ _ (by rw [spl_length, e0, hZs]; simp; omega), spl_eq _ _ _ (by rw [e0, hZs]; simp; omega)]
        have e5 : (Z.toList.take i ++ [Value.int .i64 x] ++ Z.toList.drop (i + [Value.int .i64 x].length)).take (i + 1) = (l.take i).map (Value.int .i64) ++ [.int .i64 x] := by
          rw [hZt, List.take_append_of_le_length (by simp; omega), List.take_of_length_le (by simp; omega)]
        rw [e5, List.take_append_of_le_length (by simp; omega), List.take_of_length_le (by simp; omega)]
        simp
/-- where a number stands, or would -/
def rankS (l : List Int) (x : Int) : Nat := l.countP (· < x)
def SearchPost (w : World) (l : List Int) (x : Int) (e : Ending) (w' : World) : Prop := e = .returned (.tuple #[.int .i64 (rankS l x : Nat), .bool (l.contains x)]) ∧ Dr w w'
theorem slices_search (w : World) (v : Value) (l : List Int) (x : Int) (hl : (l.length : Int) ≤ 100000) (hS : Sl w 3 1 v l.length (l.map (Value.int .i64))) (hs : l.Pairwise (· < ·)) :
    Calls Tryz.prog 87 #[v, .int .i64 x] w (SearchPost w l x) := by
  by_cases hn : l = []
  · subst hn
    have : ∃ a c, v = .slice a 0 c := by
      rcases hS.shape with ⟨rfl, _⟩ | ⟨g, off, cap, rfl, _⟩
      · exact ⟨_, _, rfl⟩
      · exact ⟨_, _, rfl⟩
    obtain ⟨a, c, rfl⟩ := this
    refine (Any.slices_BinarySearch_int_empty Tryz.bseI a c x w).mono ?_
    rintro e w' ⟨rfl, rfl⟩
    exact ⟨rfl, Dr.refl _⟩
  · obtain ⟨g, off, cap, rfl, -⟩ := hS.form (List.length_pos_iff.2 hn)
    have hc := fun j u => hS.cells rfl j u
    refine (Any.slices_BinarySearch_int Tryz.bseI g off l.length cap l x w (Nat.le_refl _) (by omega) (fun j hj => hc j _ (by simp [hj])) (by rw [List.take_of_length_le (Nat.le_refl _)]; exact hs.imp (fun h => by omega))).mono ?_
    rintro e w' ⟨rfl, q, rfl⟩
    rw [List.take_of_length_le (Nat.le_refl _)]
    exact ⟨rfl, q, rfl⟩
end Go.Proofs.YtkjggglmemafgaaGreat
