import Derived.Test.YtkjggglmemafgaaGreatPool
namespace Go.Proofs.YtkjggglmemafgaaGreat
open Go Go.RowKit
set_option maxRecDepth 20000

/-! ### spoor/bucket -/
structure BuckM where
  burst : Int
  rate : Int
  left : Int
  taken : Int
def BuckV (m : BuckM) : List Value := [.int .i64 m.burst, .int .i64 m.rate, .int .i64 m.left, .int .i64 m.taken]
def BuckM.take (m : BuckM) : Bool × BuckM := if m.left = 0 then (false, m) else (true, { m with left := m.left - 1, taken := m.taken + 1 })
def BuckM.tick (m : BuckM) : BuckM := { m with left := if m.burst < m.left + m.rate then m.burst else m.left + m.rate }
def BuckOk (m : BuckM) : Prop := 0 ≤ m.burst ∧ m.burst ≤ 1000 ∧ 0 ≤ m.rate ∧ m.rate ≤ 1000 ∧ 0 ≤ m.left ∧ m.left ≤ 1000 ∧ 0 ≤ m.taken ∧ m.taken ≤ 1000000000

theorem buck_take (w : World) (b : Nat) (m : BuckM) (h : Blk w b 161 (BuckV m)) (hok : BuckOk m) :
    Calls Tryz.prog 56 #[.pointer (some ⟨b,0,none⟩)] w fun e w' => e = .returned (.bool m.take.1) ∧ Blk w' b 161 (BuckV m.take.2) ∧ Fr (fun k => k = b) w w' := by
  obtain ⟨o1, o2, o3, o4, o5, o6, o7, o8⟩ := hok
  have c2 := h.get (i := 2) rfl
  have c3 := h.get (i := 3) rfl
  have z2 := h.frozen 2
  have z3 := h.frozen 3
  have H : Hid _ := h
  clear h
  go_enter Tryz.func56, Tryz.ntmps56
  by_cases h0 : m.left = 0
  · have ht : m.take = (false, m) := by rw [BuckM.take, if_pos h0]
    have HT : Hid _ := ht
    clear ht
    go_wp2
    go_ret
    exact ⟨by rw [HT.out]; rfl, by rw [HT.out]; exact H.out, Fr.refl _ _⟩
  · have ht : m.take = (true, { m with left := m.left - 1, taken := m.taken + 1 }) := by rw [BuckM.take, if_neg h0]
    have HT : Hid _ := ht
    clear ht
    go_wp2
    go_ret
    refine ⟨by rw [HT.out]; rfl, ?_, ?_⟩
    · rw [HT.out]; exact (Blk.set H.out 2 _).set 3 _
    · exact ((Fr.refl (fun k => k = b) w).setCell (p := ⟨b, 2, none⟩) (fun _ => rfl) _).setCell (p := ⟨b, 3, none⟩) (fun _ => rfl) _

theorem buck_tick (w : World) (b : Nat) (m : BuckM) (h : Blk w b 161 (BuckV m)) (hok : BuckOk m) :
    Calls Tryz.prog 57 #[.pointer (some ⟨b,0,none⟩)] w fun e w' => e = .returned (.tuple #[]) ∧ Blk w' b 161 (BuckV m.tick) ∧ Fr (fun k => k = b) w w' := by
  obtain ⟨o1, o2, o3, o4, o5, o6, o7, o8⟩ := hok
  have c0 := h.get (i := 0) rfl
  have c1 := h.get (i := 1) rfl
  have c2 := h.get (i := 2) rfl
  have z2 := h.frozen 2
  have H : Hid _ := h
  clear h
  go_enter Tryz.func57, Tryz.ntmps57
  go_wp2
  go_region
  go_end0
  exact ⟨rfl, (Blk.set H.out 2 _).drew, (((Fr.refl (fun k => k = b) w).setCell (p := ⟨b, 2, none⟩) (fun _ => rfl) _).drew)⟩

/-- New -/
def BuckNew (w : World) (burst rate : Int) (e : Ending) (w' : World) : Prop :=
  if 0 ≤ burst ∧ 0 ≤ rate ∧ burst ≤ 1000 ∧ rate ≤ 1000 then
    e = .returned (.tuple #[.pointer (some ⟨w.heap.size, 0, none⟩), .int .i64 0]) ∧ w' = w.alloc (.cells (BuckV ⟨burst, rate, burst, 0⟩).toArray 161)
  else e = .returned (.tuple #[.pointer none, .int .i64 1]) ∧ w' = w
theorem buck_new (w : World) (burst rate : Int) : Calls Tryz.prog 43 #[.int .i64 burst, .int .i64 rate] w (BuckNew w burst rate) := by
  have K : Hid (∀ e w', BuckNew w burst rate e w' = if 0 ≤ burst ∧ 0 ≤ rate ∧ burst ≤ 1000 ∧ rate ≤ 1000 then
    e = .returned (.tuple #[.pointer (some ⟨w.heap.size, 0, none⟩), .int .i64 0]) ∧ w' = w.alloc (.cells (BuckV ⟨burst, rate, burst, 0⟩).toArray 161)
  else e = .returned (.tuple #[.pointer none, .int .i64 1]) ∧ w' = w) := fun _ _ => rfl
  go_enter Tryz.func43, Tryz.ntmps43
  by_cases hbr : burst < rate
  all_goals
    go_wp2
    all_goals first
      | exact bodyPost_ret (v := .tuple #[.pointer (some ⟨w.heap.size, 0, none⟩), .int .i64 0]) (by simp [results, Tryz.results43, go_sem]) rfl (by rw [K.out, if_pos (by omega)]; exact ⟨rfl, rfl⟩)
      | exact bodyPost_ret (v := .tuple #[.pointer none, .int .i64 1]) (by simp [results, Tryz.results43, go_sem]) rfl (by rw [K.out, if_neg (by omega)]; exact ⟨rfl, rfl⟩)
end Go.Proofs.YtkjggglmemafgaaGreat
