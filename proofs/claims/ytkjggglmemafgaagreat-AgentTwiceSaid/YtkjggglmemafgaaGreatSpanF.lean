import Derived.Test.YtkjggglmemafgaaGreatMsgM
import Derived.Test.YtkjggglmemafgaaGreatPoolC
import Derived.Deep.RegionWith
namespace Go.Proofs.YtkjggglmemafgaaGreat
open Go Go.RowKit
set_option maxRecDepth 20000

/-! ### IndexFunc, ContainsFunc over spans -/
def idxG {α : Type} (pr : α → Bool) (l : List α) : Int := match l.findIdx? pr with | some i => i | none => -1
theorem idxG_some {α : Type} {pr : α → Bool} {l : List α} {k : Nat} {x : α} (h1 : ∀ y ∈ l.take k, pr y = false) (hx : l[k]? = some x) (hp : pr x = true) : idxG pr l = k := by
  have : l.findIdx? pr = some k := by
    rw [List.findIdx?_eq_some_iff_getElem]
    obtain ⟨hk, rfl⟩ := List.getElem?_eq_some_iff.1 hx
    refine ⟨hk, hp, fun j hj => ?_⟩
    have := h1 l[j] (List.mem_take_iff_getElem.2 ⟨j, by omega, rfl⟩)
    simp [this]
  rw [idxG, this]
theorem idxG_none {α : Type} {pr : α → Bool} {l : List α} (h1 : ∀ y ∈ l, pr y = false) : idxG pr l = -1 := by
  have : l.findIdx? pr = none := by rw [List.findIdx?_eq_none_iff]; exact h1
  rw [idxG, this]
theorem idxG_any {α : Type} (pr : α → Bool) (l : List α) : decide (0 ≤ idxG pr l) = l.any pr := by
  unfold idxG
  cases h : l.findIdx? pr with
  | none =>
    rw [List.findIdx?_eq_none_iff] at h
    have : l.any pr = false := by simpa using h
    rw [this]; rfl
  | some i =>
    rw [List.findIdx?_eq_some_iff_getElem] at h
    obtain ⟨hi, hp, -⟩ := h
    have : l.any pr = true := List.any_eq_true.2 ⟨_, List.getElem_mem hi, hp⟩
    rw [this]; simp
theorem take_all {α : Type} {pr : α → Bool} {l : List α} {k : Nat} {x : α} (h1 : ∀ y ∈ l.take k, pr y = false) (hx : l[k]? = some x) (hp : pr x = false) : ∀ y ∈ l.take (k + 1), pr y = false := by
  rw [List.take_add_one, hx]
  intro y hy
  rcases List.mem_append.1 hy with hy | hy
  · exact h1 y hy
  · simp at hy; rw [hy]; exact hp
def RetI (n : Int) (w : World) (e : Ending) (w' : World) : Prop := e = .returned (.int .i64 n) ∧ Fr (fun _ => False) w w'
theorem index_spans (F : Nat → Prop) (c : Value) (w : World) (pr : Sp → Bool) (v : Value) (l : List Sp) (h : SpansR F w v l) (hl : (l.length : Int) ≤ 1000000)
    (hpr : ∀ s W, Fr (fun _ => False) w W → Calls Tryz.prog 93 #[.agg #[.int .i64 s.tr, .int .i64 s.sq, .string s.tx], c] W (RetB (pr s) W)) :
    Calls Tryz.prog 129 #[v, .func (.func 93) #[] #[c]] w (RetI (idxG pr l) w) := by
  obtain ⟨va, vc, rfl, hc, -⟩ := Rs.shape h
  have HP : Hid _ := hpr
  clear hpr
  go_enter Tryz.func129, Tryz.ntmps129
  go_wp2
  go_loopw [8] (fun i wr => ∃ (k : Nat), k ≤ l.length ∧ i = .int .i64 k ∧ (∀ y ∈ l.take k, pr y = false) ∧ Fr (fun _ => False) w wr) (fun i _ => l.length - (intOf i).toNat)
  case atStart => exact ⟨0, Nat.zero_le _, rfl, by simp, Fr.refl _ _⟩
  case round =>
    obtain ⟨k, hk, rfl, hx, hF⟩ := hrel
    have hk0 : (0 : Int) ≤ (k : Int) := by omega
    have HX : Hid _ := hx
    clear hx
    by_cases hlt : k < l.length
    · have hlt' : (k : Int) < (l.length : Int) := by omega
      obtain ⟨s, hs⟩ : ∃ a, l[k]? = some a := ⟨l[k], List.getElem?_eq_getElem hlt⟩
      obtain ⟨g, off, c', hv, hg, -⟩ := Rs.form h (by rw [spCs_length]; omega)
      cases hv
      have hs3 := spCs_get l k s hs
      have h0 : wr.cell? ⟨g, off + k * 3, none⟩ = _ := hF.cell_some (Rs.cells h rfl _ _ hs3.1) (fun h => h)
      have h1 : wr.cell? ⟨g, off + k * 3 + 1, none⟩ = _ := hF.cell_some (Rs.cells h rfl _ _ hs3.2.1) (fun h => h)
      have h2 : wr.cell? ⟨g, off + k * 3 + 2, none⟩ = _ := hF.cell_some (Rs.cells h rfl _ _ hs3.2.2) (fun h => h)
      have HS : Hid _ := hs
      clear hs hs3
      cases hp : pr s
      · have HPR : Hid _ := hp
        have H1 : ∀ W, Fr (fun _ => False) wr W → Calls Tryz.prog 93 #[.agg #[.int .i64 s.tr, .int .i64 s.sq, .string s.tx], c] W (RetB false W) := fun W hW => by rw [← hp]; exact HP.out s W (hF.trans hW (fun _ _ h => h))
        clear hp
        go_wp2_with fail
        refine (H1 _ (by repeat first | exact Fr.refl _ _ | refine Fr.drewN ?_ _ | refine Fr.alloc ?_ _)).mono ?_
        rintro e w2 ⟨rfl, hF2⟩
        go_wp2
        go_roundw
        case rel => exact ⟨k + 1, by omega, by go_num, take_all HX.out HS.out HPR.out, hF.trans hF2 (fun _ _ h => h)⟩
        case measure => simp [intOf]; omega
      · have HPR : Hid _ := hp
        have H1 : ∀ W, Fr (fun _ => False) wr W → Calls Tryz.prog 93 #[.agg #[.int .i64 s.tr, .int .i64 s.sq, .string s.tx], c] W (RetB true W) := fun W hW => by rw [← hp]; exact HP.out s W (hF.trans hW (fun _ _ h => h))
        clear hp
        go_wp2_with fail
        refine (H1 _ (by repeat first | exact Fr.refl _ _ | refine Fr.drewN ?_ _ | refine Fr.alloc ?_ _)).mono ?_
        rintro e w2 ⟨rfl, hF2⟩
        go_wp2
        go_ret
        exact ⟨by rw [idxG_some HX.out HS.out HPR.out]; rfl, hF.trans hF2 (fun _ _ h => h)⟩
    · have hlt' : ¬ (k : Int) < (l.length : Int) := by omega
      have hn : idxG pr l = -1 := idxG_none (by have := HX.out; rwa [List.take_of_length_le (by omega)] at this)
      have HN : Hid _ := hn
      clear hn
      go_wp2
      go_ret
      exact ⟨by rw [HN.out]; rfl, hF⟩
theorem contains_spans (F : Nat → Prop) (c : Value) (w : World) (pr : Sp → Bool) (v : Value) (l : List Sp) (h : SpansR F w v l) (hl : (l.length : Int) ≤ 1000000)
    (hpr : ∀ s W, Fr (fun _ => False) w W → Calls Tryz.prog 93 #[.agg #[.int .i64 s.tr, .int .i64 s.sq, .string s.tx], c] W (RetB (pr s) W)) :
    Calls Tryz.prog 95 #[v, .func (.func 93) #[] #[c]] w (RetB (l.any pr) w) := by
  have H1 := index_spans F c w pr v l h hl hpr
  have HA : Hid _ := idxG_any pr l
  clear hpr h
  go_enter Tryz.func95, Tryz.ntmps95
  go_wp2_with fail
  refine H1.mono ?_
  rintro e w1 ⟨rfl, hF⟩
  go_wp2
  go_ret
  exact ⟨by rw [← HA.out]; rfl, hF⟩
/-- the closure of msg.Right: may a span not be one of this trace? -/
theorem right_fn (s : Sp) (t : Int) (q : Addr) (w : World) (hq : w.cell? q = some (.int .i64 t)) : Calls Tryz.prog 93 #[.agg #[.int .i64 s.tr, .int .i64 s.sq, .string s.tx], .pointer (some q)] w (RetB (!spOk s || !decide (s.tr = t)) w) := by
  have H1 := span_right s
  have hb := World.block_lt_of_cell? w _ hq
  cases ho : spOk s
  · have H2 : ∀ W, Calls _ _ _ W (RetB false W) := fun W => by have := H1 W; rw [ho] at this; exact this
    clear H1
    go_enter Tryz.func93, Tryz.ntmps93
    go_wp2_with fail
    refine (H2 _).mono ?_
    rintro e w1 ⟨rfl, hF⟩
    go_wp2
    go_ret
    exact ⟨by simp, ((Fr.refl _ w).alloc _).trans hF (fun _ _ h => h)⟩
  · have H2 : ∀ W, Calls _ _ _ W (RetB true W) := fun W => by have := H1 W; rw [ho] at this; exact this
    clear H1
    by_cases he : s.tr = t
    · have he' : ((s.tr : Int) != t) = false := by simp [he]
      have HE : Hid _ := he
      clear he
      go_enter Tryz.func93, Tryz.ntmps93
      go_wp2_with fail
      refine (H2 _).mono ?_
      rintro e w1 ⟨rfl, hF⟩
      have c1 := hF.cell_some (p := q) (v := .int .i64 t) (by simp [World.cell?_alloc_lt, hb, hq]) (fun h => h)
      have c2 := hF.cell_some (p := ⟨w.heap.size, 0, none⟩) (v := .int .i64 s.tr) (by simp) (fun h => h)
      go_wp2
      go_ret
      exact ⟨by simp [HE.out], ((Fr.refl _ w).alloc _).trans hF (fun _ _ h => h)⟩
    · have he' : ((s.tr : Int) != t) = true := by simp [he]
      have HE : Hid _ := he
      clear he
      go_enter Tryz.func93, Tryz.ntmps93
      go_wp2_with fail
      refine (H2 _).mono ?_
      rintro e w1 ⟨rfl, hF⟩
      have c1 := hF.cell_some (p := q) (v := .int .i64 t) (by simp [World.cell?_alloc_lt, hb, hq]) (fun h => h)
      have c2 := hF.cell_some (p := ⟨w.heap.size, 0, none⟩) (v := .int .i64 s.tr) (by simp) (fun h => h)
      go_wp2
      go_ret
      exact ⟨by simpa using HE.out, ((Fr.refl _ w).alloc _).trans hF (fun _ _ h => h)⟩
end Go.Proofs.YtkjggglmemafgaaGreat
