import Derived.Test.YtkjggglmemafgaaGreatPoolE
import Derived.Test.YtkjggglmemafgaaGreatKeys
import Derived.Test.YtkjggglmemafgaaGreatLeaseB
import Derived.Test.YtkjggglmemafgaaGreatHash
import Derived.Lib.SliceRun
namespace Go.Proofs.YtkjggglmemafgaaGreat
open Go Go.RowKit
set_option maxRecDepth 20000

theorem NewInts.fr0 {w0 w : World} {l : List Int} {e : Ending} {w' : World} (h : NewInts w l e w') (hf : Fr (fun _ => False) w0 w) : NewInts w0 l e w' := by
  obtain ⟨v, rfl, hS, hG, hN, hF⟩ := h
  exact ⟨v, rfl, hS, fun g hg => Nat.le_trans hf.size (hG g hg), hN, hf.trans hF (fun _ _ h => h)⟩

/-! ### pool.Traces -/
theorem pool_traces (F : Nat → Prop) (w : World) (p : Nat) (P : PoolS) (h : PoolA F w p P) :
    Calls Tryz.prog 121 #[.pointer (some ⟨p,0,none⟩)] w (NewInts w (P.m.map (·.1))) := by
  obtain ⟨bb, mb, fv, C, bufs, free, E, h, hi⟩ := h
  have hk1 : (E.map (·.1)).Perm (P.m.map (·.1)) := by
    have := hi.abs.map (fun x : Int × List Sp => x.1)
    rwa [List.map_map] at this
  have hkeys : keysOf (mv Prod.fst E) = P.m.map (·.1) := keysOf_perm (by rw [mv, List.map_map]; exact hk1) hi.srt
  have hin : ∀ q ∈ mv Prod.fst E, I64 q.1 := by
    intro q hq
    obtain ⟨x, hx, rfl⟩ := List.mem_map.1 hq
    have : x.1 ∈ P.m.map (·.1) := hk1.mem_iff.1 (List.mem_map_of_mem hx)
    obtain ⟨y, hy, e⟩ := List.mem_map.1 this
    have := hi.keys y hy
    exact ⟨by simp; omega, by simp; omega⟩
  have hl : (mv Prod.fst E).length ≤ 1000000 := by
    rw [length_mv]
    have h1 : E.length = P.m.length := hi.abs.length_eq ▸ (by simp)
    have h2 := srt_len P.m 1 65535 hi.srt hi.keys
    omega
  have c1 := h.hp.get (i := 2) rfl
  have hm := h.hm
  have C2 : ∀ W B, W.cell? ⟨B, 0, none⟩ = some (.map (some mb)) → W.im mb = some (mv Prod.fst E) → Calls Tryz.prog 107 #[.func (.func 149) #[] #[.pointer (some ⟨B, 0, none⟩)]] W (NewInts W (P.m.map (·.1))) := by
    intro W B q1 q2
    have := sorted_chain B mb W _ q1 q2 hin hl
    rwa [hkeys] at this
  clear hi h hk1 hkeys hin hl
  go_enter Tryz.func121, Tryz.ntmps121
  go_wp2_with fail
  refine (keys_chain mb w).mono ?_
  rintro e w0 ⟨rfl, rfl⟩
  go_wp2_with fail
  refine (C2 _ _ (by simp) (im_alloc hm _)).mono ?_
  rintro e w1 hN
  obtain ⟨v, rfl, hN'⟩ := id hN
  have HN : Hid _ := hN.fr0 ((Fr.refl (fun _ => False) w).alloc _)
  clear hN hN' C2
  go_wp2
  go_ret
  exact HN.out

/-! ### slices.IndexFunc, DeleteFunc, at ints -/
theorem Sl.set1 {w : World} {e : TypeId} {n : Nat} {xs : List Value} {g off l c : Nat} (h : Sl w e 1 (.slice (some ⟨g, off, none⟩) l c) n xs) {i : Nat} (u : Value) :
    Sl (w.setCell ⟨g, off + i, none⟩ u) e 1 (.slice (some ⟨g, off, none⟩) l c) n (xs.set i u) := by
  obtain ⟨h0, ⟨h1, h2⟩ | ⟨g', off', cap, cur, hv, hg, hc, hm, hs, ht⟩⟩ := h
  · cases h1
  · cases hv
    refine ⟨by simpa using h0, .inr ⟨g, off, c, cur.setIfInBounds (off + i) u, rfl, ?_, hc, hm, by simpa using hs, ?_⟩⟩
    · simp [World.setCell, Array.getElem?_modify, hg]
    · rw [Array.toList_setIfInBounds, ← ht, List.drop_set, if_neg (by omega), Nat.add_sub_cancel_left, List.take_set]
def idxS (pr : Int → Bool) (l : List Int) : Int := match l.findIdx? pr with | some i => i | none => -1
theorem idxS_at {pr : Int → Bool} {l : List Int} {k : Nat} {x : Int} (h : l[k]? = some x) (hx : pr x = true) (hb : ∀ j y, j < k → l[j]? = some y → pr y = false) : idxS pr l = k := by
  obtain ⟨hk, e⟩ := List.getElem?_eq_some_iff.1 h
  have : l.findIdx? pr = some k := by
    rw [List.findIdx?_eq_some_iff_getElem]
    exact ⟨hk, by rw [e]; exact hx, fun j hj => by rw [hb j _ hj (List.getElem?_eq_getElem (by omega))]; simp⟩
  rw [idxS, this]
theorem idxS_none {pr : Int → Bool} {l : List Int} (hb : ∀ (j : Nat) (y : Int), l[j]? = some y → pr y = false) : idxS pr l = -1 := by
  have : l.findIdx? pr = none := by
    rw [List.findIdx?_eq_none_iff]
    intro x hx
    obtain ⟨j, hj⟩ := List.mem_iff_getElem?.1 hx
    exact hb j x hj
  rw [idxS, this]
def PrAt (w : World) (q : Addr) (pr : Int → Bool) : Prop := ∀ (t : Int), Calls Tryz.prog 122 #[.int .i64 t, .pointer (some q)] w (fun e w' => e = .returned (.bool (pr t)) ∧ w = w')
theorem index_func (w : World) (q : Addr) (pr : Int → Bool) (g off n cap : Nat) (l : List Int) (hl : l.length = n) (hv : Sl w 3 1 (.slice (some ⟨g, off, none⟩) n cap) n (l.map (Value.int .i64)))
    (hn : (n : Int) ≤ 100000) (hfn : PrAt w q pr) :
    Calls Tryz.prog 136 #[.slice (some ⟨g, off, none⟩) n cap, .func (.func 122) #[] #[.pointer (some q)]] w (fun e w' => e = .returned (.int .i64 (idxS pr l)) ∧ w = w') := by
  have hc := hv.cells rfl
  go_enter Tryz.func136, Tryz.ntmps136
  go_wp2
  go_loopw [5, 8] (fun _ i wr => ∃ k : Nat, k ≤ n ∧ i = .int .i64 k ∧ (∀ j y, j < k → l[j]? = some y → pr y = false) ∧ wr = w)
    (fun _ i _ => n - (intOf i).toNat)
  case atStart => exact ⟨0, Nat.zero_le _, rfl, by intro j y h; omega, rfl⟩
  case round =>
    obtain ⟨k, hk, rfl, hb, rfl⟩ := hrel
    have hk0 : (0 : Int) ≤ (k : Int) := by omega
    by_cases hlt : k < n
    · obtain ⟨u, hu⟩ : ∃ u, l[k]? = some u := ⟨_, List.getElem?_eq_getElem (by omega)⟩
      have hck := hc k (.int .i64 u) (by rw [List.getElem?_map, hu]; rfl)
      have hlt' : (k : Int) < (n : Int) := by omega
      have HU : Hid (l[k]? = some u) := hu
      have HB : Hid (∀ j y, j < k → l[j]? = some y → pr y = false) := hb
      have hg := hv.lt rfl
      clear hu hb hv hc hl
      go_wp2_with fail
      refine (hfn u).mono ?_
      rintro e w1 ⟨rfl, rfl⟩
      cases hp : pr u with
      | true =>
        go_wp2
        go_ret
        exact ⟨by rw [idxS_at HU.out hp HB.out]; rfl, rfl⟩
      | false =>
        go_wp2
        go_roundw
        case rel => 
          refine ⟨k + 1, by omega, by go_num, ?_, by simp⟩
          intro j y hj hy
          by_cases e : j = k
          · subst e; rw [HU.out] at hy; cases hy; exact hp
          · exact HB.out j y (by omega) hy
        case measure => simp [intOf]; omega
    · obtain rfl : k = n := by omega
      have hi : idxS pr l = -1 := idxS_none (fun j y hy => hb j y (by obtain ⟨h, _⟩ := List.getElem?_eq_some_iff.1 hy; omega) hy)
      have HI : Hid (idxS pr l = -1) := hi
      clear hc hb hv hl hi
      go_wp2
      go_ret
      exact ⟨by rw [HI.out]; rfl, rfl⟩

theorem idxS_found {pr : Int → Bool} {l : List Int} (h : idxS pr l ≠ -1) : ∃ k x, idxS pr l = (k : Nat) ∧ l[k]? = some x ∧ pr x = true ∧ ∀ y ∈ l.take k, pr y = false := by
  unfold idxS at h ⊢
  split
  · next i hi =>
    obtain ⟨h1, h2, h3⟩ := List.findIdx?_eq_some_iff_getElem.1 hi
    refine ⟨i, l[i], rfl, List.getElem?_eq_getElem h1, h2, fun y hy => ?_⟩
    obtain ⟨j, hj⟩ := List.mem_iff_getElem?.1 hy
    rw [List.getElem?_take] at hj
    split at hj
    · next hlt =>
      obtain ⟨h4, rfl⟩ := List.getElem?_eq_some_iff.1 hj
      simpa using h3 j hlt
    · cases hj
  · next hn => rw [hn] at h; exact absurd rfl h
theorem idxS_miss {pr : Int → Bool} {l : List Int} (h : idxS pr l = -1) : ∀ y ∈ l, pr y = false := by
  unfold idxS at h
  split at h
  · omega
  · next hn => exact List.findIdx?_eq_none_iff.1 hn
theorem Fr.setCells {S : Nat → Prop} {a w : World} {g : Nat} (h : Fr S a w) (hp : g < a.heap.size → S g) (vs : List Value) (o : Nat) : Fr S a (w.setCells g o vs) := by
  induction vs generalizing o w with
  | nil => exact h
  | cons v vs ih => exact ih (h.setCell hp v) (o + 1)
theorem Sl.setCells {e : TypeId} {n g off l c : Nat} : ∀ (vs : List Value) (i : Nat) {w : World} {xs : List Value}, Sl w e 1 (.slice (some ⟨g, off, none⟩) l c) n xs → ∃ ys, ys.take i = xs.take i ∧ Sl (w.setCells g (off + i) vs) e 1 (.slice (some ⟨g, off, none⟩) l c) n ys
  | [], _, _, xs, h => ⟨xs, rfl, h⟩
  | v :: vs, i, w, xs, h => by
    obtain ⟨ys, h1, h2⟩ := Sl.setCells vs (i + 1) (Sl.set1 (i := i) h v)
    refine ⟨ys, ?_, h2⟩
    have := congrArg (List.take i) h1
    rw [List.take_take, List.take_take, List.take_set_of_le (by omega)] at this
    rwa [Nat.min_eq_left (by omega)] at this
theorem Sl.takeN {w : World} {e : TypeId} {n m c : Nat} {ad : Option Addr} {xs : List Value} (h : Sl w e 1 (.slice ad n c) n xs) (hm : m ≤ n) (ha : ad ≠ none) : Sl w e 1 (.slice ad m c) m (xs.take m) := by
  obtain ⟨h0, ⟨h1, h2⟩ | ⟨g', off', cap, cur, hv, hg, hc, hmx, hs, ht⟩⟩ := h
  · cases h1; exact absurd rfl ha
  · cases hv
    refine ⟨by simp; omega, .inr ⟨g', off', c, cur, rfl, hg, by omega, hmx, hs, ?_⟩⟩
    rw [← ht, List.take_take, Nat.min_eq_left (by omega), Nat.mul_one]

def DelPost (w : World) (g : Nat) (l : List Int) (e : Ending) (w' : World) : Prop :=
  ∃ v, e = .returned v ∧ Sl w' 3 1 v l.length (l.map (Value.int .i64)) ∧ v.ownBlock = some g ∧ Fr (fun x => x = g) w w'
theorem delete_func (w : World) (q : Addr) (pr : Int → Bool) (g off n cap : Nat) (l : List Int) (hl : l.length = n) (hv : Sl w 3 1 (.slice (some ⟨g, off, none⟩) n cap) n (l.map (Value.int .i64)))
    (hn : (n : Int) ≤ 100000) (hfn : ∀ W, Fr (fun x => x = g) w W → PrAt W q pr) :
    Calls Tryz.prog 120 #[.slice (some ⟨g, off, none⟩) n cap, .func (.func 122) #[] #[.pointer (some q)]] w (DelPost w g (l.filter fun x => !pr x)) := by
  have hi := index_func w q pr g off n cap l hl hv hn (hfn w (Fr.refl _ _))
  go_enter Tryz.func120, Tryz.ntmps120
  go_wp2_with fail
  refine hi.mono ?_
  rintro e w1 ⟨rfl, rfl⟩
  by_cases hm : idxS pr l = -1
  · rw [hm]
    have hf : (l.filter fun x => !pr x) = l := List.filter_eq_self.2 (fun y hy => by rw [idxS_miss hm y hy]; rfl)
    have fin : DelPost w g (l.filter fun x => !pr x) (.returned (.slice (some ⟨g, off, none⟩) n cap)) w := by
      rw [hf]; exact ⟨_, rfl, by rw [hl]; exact hv, rfl, Fr.refl _ _⟩
    clear hf hm hi hl hv hfn
    go_wp2
    go_ret
    exact fin
  · obtain ⟨k, x, hk, hkx, hpx, hno⟩ := idxS_found hm
    rw [hk]
    obtain ⟨hkl, hkx'⟩ := List.getElem?_eq_some_iff.1 hkx
    have hkn : (k : Int) < (n : Int) := by omega
    have hk0 : (0 : Int) ≤ (k : Int) := by omega
    have hft : (l.take (k + 1)).filter (fun x => !pr x) = l.take k := by
      rw [List.take_add_one, hkx, List.filter_append, List.filter_eq_self.2 (fun y hy => by rw [hno y hy]; rfl)]
      simp [hpx]
    have hst : Sl w 3 1 (.slice (some ⟨g, off, none⟩) n cap) n (l.map (Value.int .i64)) ∧ l.take k = (l.take (k + 1)).filter (fun x => !pr x) ∧ ((l.take (k + 1)).filter (fun x => !pr x)).length = k := by
      refine ⟨hv, by rw [hft], by rw [hft, List.length_take]; omega⟩
    have HF : Hid (∀ W, Fr (fun x => x = g) w W → PrAt W q pr) := hfn
    have hnn : k + 1 ≤ n := by omega
    have hkm : ((k : Int) == -1) = false := by simp
    have HL : Hid (l.length = n) := hl
    clear hfn hft hno hpx hkx' hkl hkx hk hm hi hv hl
    go_wp2
    go_loopw [5, 6, 7] (fun i j _ wr => ∃ a b : Nat, a < b ∧ b ≤ n ∧ i = .int .i64 a ∧ j = .int .i64 b ∧ ∃ ys : List Int, Sl wr 3 1 (.slice (some ⟨g, off, none⟩) n cap) n (ys.map (Value.int .i64)) ∧ ys.take a = (l.take b).filter (fun x => !pr x) ∧ ys.drop b = l.drop b ∧ ((l.take b).filter (fun x => !pr x)).length = a ∧ Fr (fun x => x = g) w wr)
      (fun _ j _ _ => n - (intOf j).toNat)
    case atStart => exact ⟨k, k + 1, by omega, hnn, rfl, rfl, _, hst.1, hst.2.1, rfl, hst.2.2, Fr.refl _ _⟩
    case round =>
      clear hst
      obtain ⟨a, b, hab, hbn, rfl, rfl, ys, hS, h1, h2, h3, hF⟩ := hrel
      have ha0 : (0 : Int) ≤ (a : Int) := by omega
      have hb0 : (0 : Int) ≤ (b : Int) := by omega
      have hab' : (a : Int) < (b : Int) := by omega
      have hbn' : (b : Int) ≤ (n : Int) := by omega
      have hP := HF.out wr hF
      have hg := hS.lt rfl
      by_cases hlt : b < n
      · have hlt' : (b : Int) < (n : Int) := by omega
        obtain ⟨u, hu⟩ : ∃ u, l[b]? = some u := ⟨_, List.getElem?_eq_getElem (by rw [HL.out]; omega)⟩
        have hub : ys[b]? = some u := by
          have := congrArg (fun z : List Int => z[0]?) h2
          simpa [List.getElem?_drop, hu] using this
        have hyl : ys.length = n := by have := hS.1; simpa using this
        obtain ⟨y, hy⟩ : ∃ y, ys[a]? = some y := ⟨_, List.getElem?_eq_getElem (by omega)⟩
        have hcb := hS.cells rfl b (.int .i64 u) (by rw [List.getElem?_map, hub]; rfl)
        have hca := hS.cells rfl a (.int .i64 y) (by rw [List.getElem?_map, hy]; rfl)
        have hfa := hS.free rfl (off + a)
        have H1 : Hid _ := h1
        have H2 : Hid _ := h2
        have H3 : Hid _ := h3
        have HU : Hid (l[b]? = some u) := hu
        have HY : Hid (ys.length = n) := hyl
        clear h1 h2 h3 hu hub hy hyl
        go_wp2_with fail
        refine (hP u).mono ?_
        rintro e w1 ⟨rfl, rfl⟩
        cases hp : pr u with
        | true =>
          go_wp2
          go_roundw
          case rel =>
            have hf : (l.take (b + 1)).filter (fun x => !pr x) = (l.take b).filter (fun x => !pr x) := by
              rw [List.take_add_one, HU.out, List.filter_append]; simp [hp]
            exact ⟨a, b + 1, by omega, by omega, rfl, by go_num, ys, hS, by rw [hf, H1.out], by rw [← List.drop_drop, H2.out, List.drop_drop], by rw [hf, H3.out], hF⟩
          case measure => simp [intOf]; omega
        | false =>
          go_wp2
          go_roundw
          case rel =>
            have hf : (l.take (b + 1)).filter (fun x => !pr x) = (l.take b).filter (fun x => !pr x) ++ [u] := by
              rw [List.take_add_one, HU.out, List.filter_append]; simp [hp]
            refine ⟨a + 1, b + 1, by omega, by omega, by go_num, by go_num, ys.set a u, ?_, ?_, ?_, by rw [hf, List.length_append, H3.out]; rfl, hF.setCell (p := ⟨g, off + a, none⟩) (fun _ => rfl) _⟩
            · rw [List.map_set]; exact Sl.set1 (i := a) hS _
            · rw [hf, ← H1.out, List.take_add_one, List.take_set_of_le (Nat.le_refl _), List.getElem?_set_self (by have := HY.out; omega)]; rfl
            · rw [List.drop_set_of_lt (by omega), ← List.drop_drop, H2.out, List.drop_drop]
          case measure => simp [intOf]; omega
      · obtain rfl : b = n := by omega
        have H1 : Hid _ := h1
        have H3 : Hid _ := h3
        obtain ⟨g', off', cap', hv', hg', hcap, hmx⟩ := hS.form (by omega)
        have e3 : cap' = cap := by cases hv'; rfl
        have hclr : ∀ ty, (Builtin.clear_ #[53] ty #[.slice (some ⟨g, off + a, none⟩) (b - a) (cap - a)]).run Tryz.prog wr = .ok (.tuple #[]) (wr.setCells g (off + a) (List.replicate (b - a) (.int .i64 0))) := fun ty => by
          refine Lib.run_clear_slice wr _ 3 ty (.int .i64 0) (by kernel_rfl) (fun _ => by kernel_rfl) rfl rfl g (off + a) _ _ (by omega) ?_ ?_
          · intro j hj
            have hyl : ys.length = b := by have := hS.1; simpa using this
            have := hS.cells rfl (a + j) (.int .i64 ys[a + j]) (by rw [List.getElem?_map, List.getElem?_eq_getElem (by omega)]; rfl)
            rw [Nat.add_assoc, this]; rfl
          · intro j hj; exact hS.free rfl _
        obtain ⟨zs, hz1, hz2⟩ := Sl.setCells (List.replicate (b - a) (.int .i64 0)) a hS
        have fin : DelPost w g (l.filter fun x => !pr x) (.returned (.slice (some ⟨g, off, none⟩) a cap)) (wr.setCells g (off + a) (List.replicate (b - a) (.int .i64 0))) := by
          refine ⟨_, rfl, ?_, rfl, hF.setCells (fun _ => rfl) _ _⟩
          have e1 : l.take b = l := List.take_of_length_le (by rw [HL.out]; exact Nat.le_refl _)
          have e2 := hz2.takeN (m := a) (by omega) (by simp)
          rw [hz1, ← List.map_take, h1, e1] at e2
          rw [e1] at h3
          rw [h3]; exact e2
        have hac : a < cap := by omega
        have hac' : (a : Int) < (cap : Int) := by omega
        have hac2 : cap - a ≠ 0 := by omega
        have HF' : Hid _ := fin
        clear hP h1 h2 h3 fin hz1 hz2 hv' hS
        go_wp2
        go_ret
        exact HF'.out
end Go.Proofs.YtkjggglmemafgaaGreat
