import Derived.Test.YtkjggglmemafgaaGreatKWrite
import Derived.Test.YtkjggglmemafgaaGreatBucket
namespace Go.Proofs.YtkjggglmemafgaaGreat
open Go Go.RowKit
set_option maxRecDepth 20000

theorem mk_map {P : Program} (t : TypeId) (w : World) : (Instr.makeMap t none).run P w = .ok (.map (some w.heap.size)) (w.alloc (.map #[] 0)) := rfl
attribute [go_sem] mk_map

/-! ### New of lease, pool, evict -/
def LeaseNew (w : World) (ticks : Int) (e : Ending) (w' : World) : Prop :=
  if 1 ≤ ticks ∧ ticks ≤ 1000 then
    ∃ b, e = .returned (.tuple #[.pointer (some ⟨b, 0, none⟩), .int .i64 0]) ∧ w.heap.size ≤ b ∧ LeaseR (fun k => w.heap.size ≤ k ∧ k < w'.heap.size) w' b ⟨ticks, [], fun _ => 0⟩ ∧ Fr (fun _ => False) w w'
  else e = .returned (.tuple #[.pointer none, .int .i64 1]) ∧ w' = w
theorem lease_new (w : World) (ticks : Int) : Calls Tryz.prog 42 #[.int .i64 ticks] w (LeaseNew w ticks) := by
  have K : Hid (∀ e w', LeaseNew w ticks e w' = if 1 ≤ ticks ∧ ticks ≤ 1000 then
    ∃ b, e = .returned (.tuple #[.pointer (some ⟨b, 0, none⟩), .int .i64 0]) ∧ w.heap.size ≤ b ∧ LeaseR (fun k => w.heap.size ≤ k ∧ k < w'.heap.size) w' b ⟨ticks, [], fun _ => 0⟩ ∧ Fr (fun _ => False) w w'
  else e = .returned (.tuple #[.pointer none, .int .i64 1]) ∧ w' = w) := fun _ _ => rfl
  go_enter Tryz.func42, Tryz.ntmps42
  by_cases h1 : 1 ≤ ticks ∧ ticks ≤ 1000
  · obtain ⟨h2, h3⟩ := h1
    go_wp2
    obtain ⟨W, hW⟩ : ∃ W, W = ((w.alloc (.map #[] 0)).alloc (.map #[] 0)).alloc (.cells #[.int .i64 ticks, .map (some w.heap.size), .map (some (w.heap.size + 1))] 159) := ⟨_, rfl⟩
    have f : Fr (fun _ => False) w W := by rw [hW]; exact (((Fr.refl _ w).alloc _).alloc _).alloc _
    have e1 : W.im w.heap.size = some [] := by rw [hW]; exact im_alloc (im_alloc (im_made w) _) _
    have e2 : W.im (w.heap.size + 1) = some [] := by
      rw [hW]
      have := im_alloc (im_made (w.alloc (.map #[] 0))) (.cells #[.int .i64 ticks, .map (some w.heap.size), .map (some (w.heap.size + 1))] 159)
      simpa using this
    have e3 : Blk W (w.heap.size + 2) 159 [.int .i64 ticks, .map (some w.heap.size), .map (some (w.heap.size + 1))] := by
      rw [hW]
      have := Blk.new ((w.alloc (.map #[] 0)).alloc (.map #[] 0)) [.int .i64 ticks, .map (some w.heap.size), .map (some (w.heap.size + 1))] 159
      simpa using this
    have hsz : W.heap.size = w.heap.size + 3 := by rw [hW]; simp
    have fin : LeaseNew w ticks (.returned (.tuple #[.pointer (some ⟨w.heap.size + 2, 0, none⟩), .int .i64 0])) W := by
      rw [K.out, if_pos ⟨h2, h3⟩]
      exact ⟨_, rfl, by omega, ⟨⟨_, _, [], [], e3, ⟨by omega, by omega⟩, ⟨by omega, by omega⟩, ⟨by omega, by omega⟩, by omega, e1, List.Perm.refl _, e2, fun _ => rfl⟩, List.Pairwise.nil, fun k hk => hk.2⟩, f⟩
    rw [hW] at fin
    exact bodyPost_ret (v := .tuple #[.pointer (some ⟨w.heap.size + 2, 0, none⟩), .int .i64 0]) (by simp [results, Tryz.results42, go_sem]) rfl fin
  · by_cases h2 : ticks < 1
    · go_wp2
      exact bodyPost_ret (v := .tuple #[.pointer none, .int .i64 1]) (by simp [results, Tryz.results42, go_sem]) rfl (by rw [K.out, if_neg (by omega)]; exact ⟨rfl, rfl⟩)
    · have h3 : 1000 < ticks := by omega
      go_wp2
      exact bodyPost_ret (v := .tuple #[.pointer none, .int .i64 1]) (by simp [results, Tryz.results42, go_sem]) rfl (by rw [K.out, if_neg (by omega)]; exact ⟨rfl, rfl⟩)
end Go.Proofs.YtkjggglmemafgaaGreat
