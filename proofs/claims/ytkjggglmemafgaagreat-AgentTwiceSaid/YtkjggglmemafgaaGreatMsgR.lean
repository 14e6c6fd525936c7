import Derived.Test.YtkjggglmemafgaaGreatMsgB
import Derived.Test.YtkjggglmemafgaaGreatSpanF
namespace Go.Proofs.YtkjggglmemafgaaGreat
open Go Go.RowKit
set_option linter.unusedVariables false
set_option linter.unusedSimpArgs false
set_option maxRecDepth 20000

theorem all_right (t : Int) (s : List Sp) : (s.all fun s => spOk s && decide (s.tr = t)) = !(s.any fun x => !spOk x || !decide (x.tr = t)) := by
  induction s with
  | nil => rfl
  | cons a s ih => rw [List.all_cons, List.any_cons, ih]; cases spOk a <;> by_cases h : a.tr = t <;> simp [h]
theorem within_bd {n lo hi : Int} (h : within n lo hi = true) : lo ≤ n ∧ n ≤ hi := by simpa [within] using h
set_option maxHeartbeats 1000000 in
theorem msg_right_pin (F : Nat → Prop) (w : World) (v : Value) (t j : Int) (h : MsgR F w v (.pin t j)) : Calls Tryz.prog 48 #[v] w (RetB (MsgM.pin t j).right w) := by
  have H1 : ∀ W, Fr (fun _ => False) w W → Calls Tryz.prog 89 #[v] W (OfPost W (t, j, true)) := fun W hW => msg_of F W v _ (h.fr hW (fun _ _ h => h))
  have H2 : ∀ W, Fr (fun _ => False) w W → Calls Tryz.prog 91 #[v] W (AgPost W (0, false)) := fun W hW => msg_agent F W v _ (h.fr hW (fun _ _ h => h))
  obtain rfl := h
  cases hT : within t 1 65535
  · have HR : Hid ((MsgM.pin t j).right = false) := (by simp [MsgM.right, hT] : (MsgM.pin t j).right = false)
    rw [HR.out]
    go_enter Tryz.func48, Tryz.ntmps48
    go_wp2_with fail
    refine (H1 _ (Fr.refl _ _)).mono ?_
    rintro e w1 ⟨rfl, hF1⟩
    go_wp2_with (go_at_call 90; refine (msg_within _ _ _ _).mono ?_; rintro e w' ⟨rfl, rfl⟩)
    go_ret
    exact ⟨rfl, by repeat first | assumption | refine Fr.drewN ?_ _ | refine Fr.alloc ?_ _⟩
  · cases hJ : within j 1 1073741824
    · have HR : Hid ((MsgM.pin t j).right = false) := (by simp [MsgM.right, hJ] : (MsgM.pin t j).right = false)
      rw [HR.out]
      go_enter Tryz.func48, Tryz.ntmps48
      go_wp2_with fail
      refine (H1 _ (Fr.refl _ _)).mono ?_
      rintro e w1 ⟨rfl, hF1⟩
      go_wp2_with (go_at_call 90; refine (msg_within _ _ _ _).mono ?_; rintro e w' ⟨rfl, rfl⟩)
      refine (H2 _ (by repeat first | exact hF1 | refine Fr.drewN ?_ _ | refine Fr.alloc ?_ _)).mono ?_
      rintro e w2 ⟨rfl, hF2⟩
      have hG : Fr (fun _ => False) w w2 := (by repeat first | exact hF1 | refine Fr.drewN ?_ _ | refine Fr.alloc ?_ _ : Fr (fun _ => False) w _).trans hF2 (fun _ _ h => h)
      have hq := hF2.cell_some (p := ⟨w1.heap.size, 0, none⟩) (v := .int .i64 t) (by simp) (fun h => h)
      go_wp2_with (go_at_call 90; refine (msg_within _ _ _ _).mono ?_; rintro e w' ⟨rfl, rfl⟩)
      go_ret
      exact ⟨rfl, by repeat first | assumption | refine Fr.drewN ?_ _ | refine Fr.alloc ?_ _⟩
    · have HR : Hid ((MsgM.pin t j).right = true) := (by simp [MsgM.right, hT, hJ] : (MsgM.pin t j).right = true)
      rw [HR.out]
      go_enter Tryz.func48, Tryz.ntmps48
      go_wp2_with fail
      refine (H1 _ (Fr.refl _ _)).mono ?_
      rintro e w1 ⟨rfl, hF1⟩
      go_wp2_with (go_at_call 90; refine (msg_within _ _ _ _).mono ?_; rintro e w' ⟨rfl, rfl⟩)
      refine (H2 _ (by repeat first | exact hF1 | refine Fr.drewN ?_ _ | refine Fr.alloc ?_ _)).mono ?_
      rintro e w2 ⟨rfl, hF2⟩
      have hG : Fr (fun _ => False) w w2 := (by repeat first | exact hF1 | refine Fr.drewN ?_ _ | refine Fr.alloc ?_ _ : Fr (fun _ => False) w _).trans hF2 (fun _ _ h => h)
      have hq := hF2.cell_some (p := ⟨w1.heap.size, 0, none⟩) (v := .int .i64 t) (by simp) (fun h => h)
      go_wp2_with (go_at_call 90; refine (msg_within _ _ _ _).mono ?_; rintro e w' ⟨rfl, rfl⟩)
      go_ret
      exact ⟨rfl, by repeat first | assumption | refine Fr.drewN ?_ _ | refine Fr.alloc ?_ _⟩
set_option maxHeartbeats 1000000 in
theorem msg_right_collect (F : Nat → Prop) (w : World) (v : Value) (t j : Int) (h : MsgR F w v (.collect t j)) : Calls Tryz.prog 48 #[v] w (RetB (MsgM.collect t j).right w) := by
  have H1 : ∀ W, Fr (fun _ => False) w W → Calls Tryz.prog 89 #[v] W (OfPost W (t, j, true)) := fun W hW => msg_of F W v _ (h.fr hW (fun _ _ h => h))
  have H2 : ∀ W, Fr (fun _ => False) w W → Calls Tryz.prog 91 #[v] W (AgPost W (0, false)) := fun W hW => msg_agent F W v _ (h.fr hW (fun _ _ h => h))
  obtain rfl := h
  cases hT : within t 1 65535
  · have HR : Hid ((MsgM.collect t j).right = false) := (by simp [MsgM.right, hT] : (MsgM.collect t j).right = false)
    rw [HR.out]
    go_enter Tryz.func48, Tryz.ntmps48
    go_wp2_with fail
    refine (H1 _ (Fr.refl _ _)).mono ?_
    rintro e w1 ⟨rfl, hF1⟩
    go_wp2_with (go_at_call 90; refine (msg_within _ _ _ _).mono ?_; rintro e w' ⟨rfl, rfl⟩)
    go_ret
    exact ⟨rfl, by repeat first | assumption | refine Fr.drewN ?_ _ | refine Fr.alloc ?_ _⟩
  · cases hJ : within j 1 1073741824
    · have HR : Hid ((MsgM.collect t j).right = false) := (by simp [MsgM.right, hJ] : (MsgM.collect t j).right = false)
      rw [HR.out]
      go_enter Tryz.func48, Tryz.ntmps48
      go_wp2_with fail
      refine (H1 _ (Fr.refl _ _)).mono ?_
      rintro e w1 ⟨rfl, hF1⟩
      go_wp2_with (go_at_call 90; refine (msg_within _ _ _ _).mono ?_; rintro e w' ⟨rfl, rfl⟩)
      refine (H2 _ (by repeat first | exact hF1 | refine Fr.drewN ?_ _ | refine Fr.alloc ?_ _)).mono ?_
      rintro e w2 ⟨rfl, hF2⟩
      have hG : Fr (fun _ => False) w w2 := (by repeat first | exact hF1 | refine Fr.drewN ?_ _ | refine Fr.alloc ?_ _ : Fr (fun _ => False) w _).trans hF2 (fun _ _ h => h)
      have hq := hF2.cell_some (p := ⟨w1.heap.size, 0, none⟩) (v := .int .i64 t) (by simp) (fun h => h)
      go_wp2_with (go_at_call 90; refine (msg_within _ _ _ _).mono ?_; rintro e w' ⟨rfl, rfl⟩)
      go_ret
      exact ⟨rfl, by repeat first | assumption | refine Fr.drewN ?_ _ | refine Fr.alloc ?_ _⟩
    · have HR : Hid ((MsgM.collect t j).right = true) := (by simp [MsgM.right, hT, hJ] : (MsgM.collect t j).right = true)
      rw [HR.out]
      go_enter Tryz.func48, Tryz.ntmps48
      go_wp2_with fail
      refine (H1 _ (Fr.refl _ _)).mono ?_
      rintro e w1 ⟨rfl, hF1⟩
      go_wp2_with (go_at_call 90; refine (msg_within _ _ _ _).mono ?_; rintro e w' ⟨rfl, rfl⟩)
      refine (H2 _ (by repeat first | exact hF1 | refine Fr.drewN ?_ _ | refine Fr.alloc ?_ _)).mono ?_
      rintro e w2 ⟨rfl, hF2⟩
      have hG : Fr (fun _ => False) w w2 := (by repeat first | exact hF1 | refine Fr.drewN ?_ _ | refine Fr.alloc ?_ _ : Fr (fun _ => False) w _).trans hF2 (fun _ _ h => h)
      have hq := hF2.cell_some (p := ⟨w1.heap.size, 0, none⟩) (v := .int .i64 t) (by simp) (fun h => h)
      go_wp2_with (go_at_call 90; refine (msg_within _ _ _ _).mono ?_; rintro e w' ⟨rfl, rfl⟩)
      go_ret
      exact ⟨rfl, by repeat first | assumption | refine Fr.drewN ?_ _ | refine Fr.alloc ?_ _⟩
set_option maxHeartbeats 1000000 in
theorem msg_right_stored (F : Nat → Prop) (w : World) (v : Value) (t j : Int) (h : MsgR F w v (.stored t j)) : Calls Tryz.prog 48 #[v] w (RetB (MsgM.stored t j).right w) := by
  have H1 : ∀ W, Fr (fun _ => False) w W → Calls Tryz.prog 89 #[v] W (OfPost W (t, j, true)) := fun W hW => msg_of F W v _ (h.fr hW (fun _ _ h => h))
  have H2 : ∀ W, Fr (fun _ => False) w W → Calls Tryz.prog 91 #[v] W (AgPost W (0, false)) := fun W hW => msg_agent F W v _ (h.fr hW (fun _ _ h => h))
  obtain rfl := h
  cases hT : within t 1 65535
  · have HR : Hid ((MsgM.stored t j).right = false) := (by simp [MsgM.right, hT] : (MsgM.stored t j).right = false)
    rw [HR.out]
    go_enter Tryz.func48, Tryz.ntmps48
    go_wp2_with fail
    refine (H1 _ (Fr.refl _ _)).mono ?_
    rintro e w1 ⟨rfl, hF1⟩
    go_wp2_with (go_at_call 90; refine (msg_within _ _ _ _).mono ?_; rintro e w' ⟨rfl, rfl⟩)
    go_ret
    exact ⟨rfl, by repeat first | assumption | refine Fr.drewN ?_ _ | refine Fr.alloc ?_ _⟩
  · cases hJ : within j 1 1073741824
    · have HR : Hid ((MsgM.stored t j).right = false) := (by simp [MsgM.right, hJ] : (MsgM.stored t j).right = false)
      rw [HR.out]
      go_enter Tryz.func48, Tryz.ntmps48
      go_wp2_with fail
      refine (H1 _ (Fr.refl _ _)).mono ?_
      rintro e w1 ⟨rfl, hF1⟩
      go_wp2_with (go_at_call 90; refine (msg_within _ _ _ _).mono ?_; rintro e w' ⟨rfl, rfl⟩)
      refine (H2 _ (by repeat first | exact hF1 | refine Fr.drewN ?_ _ | refine Fr.alloc ?_ _)).mono ?_
      rintro e w2 ⟨rfl, hF2⟩
      have hG : Fr (fun _ => False) w w2 := (by repeat first | exact hF1 | refine Fr.drewN ?_ _ | refine Fr.alloc ?_ _ : Fr (fun _ => False) w _).trans hF2 (fun _ _ h => h)
      have hq := hF2.cell_some (p := ⟨w1.heap.size, 0, none⟩) (v := .int .i64 t) (by simp) (fun h => h)
      go_wp2_with (go_at_call 90; refine (msg_within _ _ _ _).mono ?_; rintro e w' ⟨rfl, rfl⟩)
      go_ret
      exact ⟨rfl, by repeat first | assumption | refine Fr.drewN ?_ _ | refine Fr.alloc ?_ _⟩
    · have HR : Hid ((MsgM.stored t j).right = true) := (by simp [MsgM.right, hT, hJ] : (MsgM.stored t j).right = true)
      rw [HR.out]
      go_enter Tryz.func48, Tryz.ntmps48
      go_wp2_with fail
      refine (H1 _ (Fr.refl _ _)).mono ?_
      rintro e w1 ⟨rfl, hF1⟩
      go_wp2_with (go_at_call 90; refine (msg_within _ _ _ _).mono ?_; rintro e w' ⟨rfl, rfl⟩)
      refine (H2 _ (by repeat first | exact hF1 | refine Fr.drewN ?_ _ | refine Fr.alloc ?_ _)).mono ?_
      rintro e w2 ⟨rfl, hF2⟩
      have hG : Fr (fun _ => False) w w2 := (by repeat first | exact hF1 | refine Fr.drewN ?_ _ | refine Fr.alloc ?_ _ : Fr (fun _ => False) w _).trans hF2 (fun _ _ h => h)
      have hq := hF2.cell_some (p := ⟨w1.heap.size, 0, none⟩) (v := .int .i64 t) (by simp) (fun h => h)
      go_wp2_with (go_at_call 90; refine (msg_within _ _ _ _).mono ?_; rintro e w' ⟨rfl, rfl⟩)
      go_ret
      exact ⟨rfl, by repeat first | assumption | refine Fr.drewN ?_ _ | refine Fr.alloc ?_ _⟩
set_option maxHeartbeats 1000000 in
theorem msg_right_unpin (F : Nat → Prop) (w : World) (v : Value) (t j : Int) (h : MsgR F w v (.unpin t j)) : Calls Tryz.prog 48 #[v] w (RetB (MsgM.unpin t j).right w) := by
  have H1 : ∀ W, Fr (fun _ => False) w W → Calls Tryz.prog 89 #[v] W (OfPost W (t, j, true)) := fun W hW => msg_of F W v _ (h.fr hW (fun _ _ h => h))
  have H2 : ∀ W, Fr (fun _ => False) w W → Calls Tryz.prog 91 #[v] W (AgPost W (0, false)) := fun W hW => msg_agent F W v _ (h.fr hW (fun _ _ h => h))
  obtain rfl := h
  cases hT : within t 1 65535
  · have HR : Hid ((MsgM.unpin t j).right = false) := (by simp [MsgM.right, hT] : (MsgM.unpin t j).right = false)
    rw [HR.out]
    go_enter Tryz.func48, Tryz.ntmps48
    go_wp2_with fail
    refine (H1 _ (Fr.refl _ _)).mono ?_
    rintro e w1 ⟨rfl, hF1⟩
    go_wp2_with (go_at_call 90; refine (msg_within _ _ _ _).mono ?_; rintro e w' ⟨rfl, rfl⟩)
    go_ret
    exact ⟨rfl, by repeat first | assumption | refine Fr.drewN ?_ _ | refine Fr.alloc ?_ _⟩
  · cases hJ : within j 1 1073741824
    · have HR : Hid ((MsgM.unpin t j).right = false) := (by simp [MsgM.right, hJ] : (MsgM.unpin t j).right = false)
      rw [HR.out]
      go_enter Tryz.func48, Tryz.ntmps48
      go_wp2_with fail
      refine (H1 _ (Fr.refl _ _)).mono ?_
      rintro e w1 ⟨rfl, hF1⟩
      go_wp2_with (go_at_call 90; refine (msg_within _ _ _ _).mono ?_; rintro e w' ⟨rfl, rfl⟩)
      refine (H2 _ (by repeat first | exact hF1 | refine Fr.drewN ?_ _ | refine Fr.alloc ?_ _)).mono ?_
      rintro e w2 ⟨rfl, hF2⟩
      have hG : Fr (fun _ => False) w w2 := (by repeat first | exact hF1 | refine Fr.drewN ?_ _ | refine Fr.alloc ?_ _ : Fr (fun _ => False) w _).trans hF2 (fun _ _ h => h)
      have hq := hF2.cell_some (p := ⟨w1.heap.size, 0, none⟩) (v := .int .i64 t) (by simp) (fun h => h)
      go_wp2_with (go_at_call 90; refine (msg_within _ _ _ _).mono ?_; rintro e w' ⟨rfl, rfl⟩)
      go_ret
      exact ⟨rfl, by repeat first | assumption | refine Fr.drewN ?_ _ | refine Fr.alloc ?_ _⟩
    · have HR : Hid ((MsgM.unpin t j).right = true) := (by simp [MsgM.right, hT, hJ] : (MsgM.unpin t j).right = true)
      rw [HR.out]
      go_enter Tryz.func48, Tryz.ntmps48
      go_wp2_with fail
      refine (H1 _ (Fr.refl _ _)).mono ?_
      rintro e w1 ⟨rfl, hF1⟩
      go_wp2_with (go_at_call 90; refine (msg_within _ _ _ _).mono ?_; rintro e w' ⟨rfl, rfl⟩)
      refine (H2 _ (by repeat first | exact hF1 | refine Fr.drewN ?_ _ | refine Fr.alloc ?_ _)).mono ?_
      rintro e w2 ⟨rfl, hF2⟩
      have hG : Fr (fun _ => False) w w2 := (by repeat first | exact hF1 | refine Fr.drewN ?_ _ | refine Fr.alloc ?_ _ : Fr (fun _ => False) w _).trans hF2 (fun _ _ h => h)
      have hq := hF2.cell_some (p := ⟨w1.heap.size, 0, none⟩) (v := .int .i64 t) (by simp) (fun h => h)
      go_wp2_with (go_at_call 90; refine (msg_within _ _ _ _).mono ?_; rintro e w' ⟨rfl, rfl⟩)
      go_ret
      exact ⟨rfl, by repeat first | assumption | refine Fr.drewN ?_ _ | refine Fr.alloc ?_ _⟩
set_option maxHeartbeats 1000000 in
theorem msg_right_gone (F : Nat → Prop) (w : World) (v : Value) (a t j : Int) (h : MsgR F w v (.gone a t j)) : Calls Tryz.prog 48 #[v] w (RetB (MsgM.gone a t j).right w) := by
  have H1 : ∀ W, Fr (fun _ => False) w W → Calls Tryz.prog 89 #[v] W (OfPost W (t, j, true)) := fun W hW => msg_of F W v _ (h.fr hW (fun _ _ h => h))
  have H2 : ∀ W, Fr (fun _ => False) w W → Calls Tryz.prog 91 #[v] W (AgPost W (a, true)) := fun W hW => msg_agent F W v _ (h.fr hW (fun _ _ h => h))
  obtain rfl := h
  cases hT : within t 1 65535
  · have HR : Hid ((MsgM.gone a t j).right = false) := (by simp [MsgM.right, hT] : (MsgM.gone a t j).right = false)
    rw [HR.out]
    go_enter Tryz.func48, Tryz.ntmps48
    go_wp2_with fail
    refine (H1 _ (Fr.refl _ _)).mono ?_
    rintro e w1 ⟨rfl, hF1⟩
    go_wp2_with (go_at_call 90; refine (msg_within _ _ _ _).mono ?_; rintro e w' ⟨rfl, rfl⟩)
    go_ret
    exact ⟨rfl, by repeat first | assumption | refine Fr.drewN ?_ _ | refine Fr.alloc ?_ _⟩
  · cases hA : within a 0 3
    · have HR : Hid ((MsgM.gone a t j).right = false) := (by simp [MsgM.right, hA] : (MsgM.gone a t j).right = false)
      rw [HR.out]
      go_enter Tryz.func48, Tryz.ntmps48
      go_wp2_with fail
      refine (H1 _ (Fr.refl _ _)).mono ?_
      rintro e w1 ⟨rfl, hF1⟩
      go_wp2_with (go_at_call 90; refine (msg_within _ _ _ _).mono ?_; rintro e w' ⟨rfl, rfl⟩)
      refine (H2 _ (by repeat first | exact hF1 | refine Fr.drewN ?_ _ | refine Fr.alloc ?_ _)).mono ?_
      rintro e w2 ⟨rfl, hF2⟩
      have hG : Fr (fun _ => False) w w2 := (by repeat first | exact hF1 | refine Fr.drewN ?_ _ | refine Fr.alloc ?_ _ : Fr (fun _ => False) w _).trans hF2 (fun _ _ h => h)
      have hq := hF2.cell_some (p := ⟨w1.heap.size, 0, none⟩) (v := .int .i64 t) (by simp) (fun h => h)
      go_wp2_with (go_at_call 90; refine (msg_within _ _ _ _).mono ?_; rintro e w' ⟨rfl, rfl⟩)
      go_ret
      exact ⟨rfl, by repeat first | assumption | refine Fr.drewN ?_ _ | refine Fr.alloc ?_ _⟩
    · cases hJ : within j 1 1073741824
      · have HR : Hid ((MsgM.gone a t j).right = false) := (by simp [MsgM.right, hJ] : (MsgM.gone a t j).right = false)
        rw [HR.out]
        go_enter Tryz.func48, Tryz.ntmps48
        go_wp2_with fail
        refine (H1 _ (Fr.refl _ _)).mono ?_
        rintro e w1 ⟨rfl, hF1⟩
        go_wp2_with (go_at_call 90; refine (msg_within _ _ _ _).mono ?_; rintro e w' ⟨rfl, rfl⟩)
        refine (H2 _ (by repeat first | exact hF1 | refine Fr.drewN ?_ _ | refine Fr.alloc ?_ _)).mono ?_
        rintro e w2 ⟨rfl, hF2⟩
        have hG : Fr (fun _ => False) w w2 := (by repeat first | exact hF1 | refine Fr.drewN ?_ _ | refine Fr.alloc ?_ _ : Fr (fun _ => False) w _).trans hF2 (fun _ _ h => h)
        have hq := hF2.cell_some (p := ⟨w1.heap.size, 0, none⟩) (v := .int .i64 t) (by simp) (fun h => h)
        go_wp2_with (go_at_call 90; refine (msg_within _ _ _ _).mono ?_; rintro e w' ⟨rfl, rfl⟩)
        go_ret
        exact ⟨rfl, by repeat first | assumption | refine Fr.drewN ?_ _ | refine Fr.alloc ?_ _⟩
      · have HR : Hid ((MsgM.gone a t j).right = true) := (by simp [MsgM.right, hT, hA, hJ] : (MsgM.gone a t j).right = true)
        rw [HR.out]
        go_enter Tryz.func48, Tryz.ntmps48
        go_wp2_with fail
        refine (H1 _ (Fr.refl _ _)).mono ?_
        rintro e w1 ⟨rfl, hF1⟩
        go_wp2_with (go_at_call 90; refine (msg_within _ _ _ _).mono ?_; rintro e w' ⟨rfl, rfl⟩)
        refine (H2 _ (by repeat first | exact hF1 | refine Fr.drewN ?_ _ | refine Fr.alloc ?_ _)).mono ?_
        rintro e w2 ⟨rfl, hF2⟩
        have hG : Fr (fun _ => False) w w2 := (by repeat first | exact hF1 | refine Fr.drewN ?_ _ | refine Fr.alloc ?_ _ : Fr (fun _ => False) w _).trans hF2 (fun _ _ h => h)
        have hq := hF2.cell_some (p := ⟨w1.heap.size, 0, none⟩) (v := .int .i64 t) (by simp) (fun h => h)
        go_wp2_with (go_at_call 90; refine (msg_within _ _ _ _).mono ?_; rintro e w' ⟨rfl, rfl⟩)
        go_ret
        exact ⟨rfl, by repeat first | assumption | refine Fr.drewN ?_ _ | refine Fr.alloc ?_ _⟩
set_option maxHeartbeats 1000000 in
theorem msg_right_unpinned (F : Nat → Prop) (w : World) (v : Value) (a t j : Int) (h : MsgR F w v (.unpinned a t j)) : Calls Tryz.prog 48 #[v] w (RetB (MsgM.unpinned a t j).right w) := by
  have H1 : ∀ W, Fr (fun _ => False) w W → Calls Tryz.prog 89 #[v] W (OfPost W (t, j, true)) := fun W hW => msg_of F W v _ (h.fr hW (fun _ _ h => h))
  have H2 : ∀ W, Fr (fun _ => False) w W → Calls Tryz.prog 91 #[v] W (AgPost W (a, true)) := fun W hW => msg_agent F W v _ (h.fr hW (fun _ _ h => h))
  obtain rfl := h
  cases hT : within t 1 65535
  · have HR : Hid ((MsgM.unpinned a t j).right = false) := (by simp [MsgM.right, hT] : (MsgM.unpinned a t j).right = false)
    rw [HR.out]
    go_enter Tryz.func48, Tryz.ntmps48
    go_wp2_with fail
    refine (H1 _ (Fr.refl _ _)).mono ?_
    rintro e w1 ⟨rfl, hF1⟩
    go_wp2_with (go_at_call 90; refine (msg_within _ _ _ _).mono ?_; rintro e w' ⟨rfl, rfl⟩)
    go_ret
    exact ⟨rfl, by repeat first | assumption | refine Fr.drewN ?_ _ | refine Fr.alloc ?_ _⟩
  · cases hA : within a 0 3
    · have HR : Hid ((MsgM.unpinned a t j).right = false) := (by simp [MsgM.right, hA] : (MsgM.unpinned a t j).right = false)
      rw [HR.out]
      go_enter Tryz.func48, Tryz.ntmps48
      go_wp2_with fail
      refine (H1 _ (Fr.refl _ _)).mono ?_
      rintro e w1 ⟨rfl, hF1⟩
      go_wp2_with (go_at_call 90; refine (msg_within _ _ _ _).mono ?_; rintro e w' ⟨rfl, rfl⟩)
      refine (H2 _ (by repeat first | exact hF1 | refine Fr.drewN ?_ _ | refine Fr.alloc ?_ _)).mono ?_
      rintro e w2 ⟨rfl, hF2⟩
      have hG : Fr (fun _ => False) w w2 := (by repeat first | exact hF1 | refine Fr.drewN ?_ _ | refine Fr.alloc ?_ _ : Fr (fun _ => False) w _).trans hF2 (fun _ _ h => h)
      have hq := hF2.cell_some (p := ⟨w1.heap.size, 0, none⟩) (v := .int .i64 t) (by simp) (fun h => h)
      go_wp2_with (go_at_call 90; refine (msg_within _ _ _ _).mono ?_; rintro e w' ⟨rfl, rfl⟩)
      go_ret
      exact ⟨rfl, by repeat first | assumption | refine Fr.drewN ?_ _ | refine Fr.alloc ?_ _⟩
    · cases hJ : within j 1 1073741824
      · have HR : Hid ((MsgM.unpinned a t j).right = false) := (by simp [MsgM.right, hJ] : (MsgM.unpinned a t j).right = false)
        rw [HR.out]
        go_enter Tryz.func48, Tryz.ntmps48
        go_wp2_with fail
        refine (H1 _ (Fr.refl _ _)).mono ?_
        rintro e w1 ⟨rfl, hF1⟩
        go_wp2_with (go_at_call 90; refine (msg_within _ _ _ _).mono ?_; rintro e w' ⟨rfl, rfl⟩)
        refine (H2 _ (by repeat first | exact hF1 | refine Fr.drewN ?_ _ | refine Fr.alloc ?_ _)).mono ?_
        rintro e w2 ⟨rfl, hF2⟩
        have hG : Fr (fun _ => False) w w2 := (by repeat first | exact hF1 | refine Fr.drewN ?_ _ | refine Fr.alloc ?_ _ : Fr (fun _ => False) w _).trans hF2 (fun _ _ h => h)
        have hq := hF2.cell_some (p := ⟨w1.heap.size, 0, none⟩) (v := .int .i64 t) (by simp) (fun h => h)
        go_wp2_with (go_at_call 90; refine (msg_within _ _ _ _).mono ?_; rintro e w' ⟨rfl, rfl⟩)
        go_ret
        exact ⟨rfl, by repeat first | assumption | refine Fr.drewN ?_ _ | refine Fr.alloc ?_ _⟩
      · have HR : Hid ((MsgM.unpinned a t j).right = true) := (by simp [MsgM.right, hT, hA, hJ] : (MsgM.unpinned a t j).right = true)
        rw [HR.out]
        go_enter Tryz.func48, Tryz.ntmps48
        go_wp2_with fail
        refine (H1 _ (Fr.refl _ _)).mono ?_
        rintro e w1 ⟨rfl, hF1⟩
        go_wp2_with (go_at_call 90; refine (msg_within _ _ _ _).mono ?_; rintro e w' ⟨rfl, rfl⟩)
        refine (H2 _ (by repeat first | exact hF1 | refine Fr.drewN ?_ _ | refine Fr.alloc ?_ _)).mono ?_
        rintro e w2 ⟨rfl, hF2⟩
        have hG : Fr (fun _ => False) w w2 := (by repeat first | exact hF1 | refine Fr.drewN ?_ _ | refine Fr.alloc ?_ _ : Fr (fun _ => False) w _).trans hF2 (fun _ _ h => h)
        have hq := hF2.cell_some (p := ⟨w1.heap.size, 0, none⟩) (v := .int .i64 t) (by simp) (fun h => h)
        go_wp2_with (go_at_call 90; refine (msg_within _ _ _ _).mono ?_; rintro e w' ⟨rfl, rfl⟩)
        go_ret
        exact ⟨rfl, by repeat first | assumption | refine Fr.drewN ?_ _ | refine Fr.alloc ?_ _⟩
set_option maxHeartbeats 1000000 in
theorem msg_right_trigger (F : Nat → Prop) (w : World) (v : Value) (a t c : Int) (h : MsgR F w v (.trigger a t c)) : Calls Tryz.prog 48 #[v] w (RetB (MsgM.trigger a t c).right w) := by
  have H1 : ∀ W, Fr (fun _ => False) w W → Calls Tryz.prog 89 #[v] W (OfPost W (t, 0, true)) := fun W hW => msg_of F W v _ (h.fr hW (fun _ _ h => h))
  have H2 : ∀ W, Fr (fun _ => False) w W → Calls Tryz.prog 91 #[v] W (AgPost W (a, true)) := fun W hW => msg_agent F W v _ (h.fr hW (fun _ _ h => h))
  obtain rfl := h
  cases hT : within t 1 65535
  · have HR : Hid ((MsgM.trigger a t c).right = false) := (by simp [MsgM.right, hT] : (MsgM.trigger a t c).right = false)
    rw [HR.out]
    go_enter Tryz.func48, Tryz.ntmps48
    go_wp2_with fail
    refine (H1 _ (Fr.refl _ _)).mono ?_
    rintro e w1 ⟨rfl, hF1⟩
    go_wp2_with (go_at_call 90; refine (msg_within _ _ _ _).mono ?_; rintro e w' ⟨rfl, rfl⟩)
    go_ret
    exact ⟨rfl, by repeat first | assumption | refine Fr.drewN ?_ _ | refine Fr.alloc ?_ _⟩
  · cases hA : within a 0 3
    · have HR : Hid ((MsgM.trigger a t c).right = false) := (by simp [MsgM.right, hA] : (MsgM.trigger a t c).right = false)
      rw [HR.out]
      go_enter Tryz.func48, Tryz.ntmps48
      go_wp2_with fail
      refine (H1 _ (Fr.refl _ _)).mono ?_
      rintro e w1 ⟨rfl, hF1⟩
      go_wp2_with (go_at_call 90; refine (msg_within _ _ _ _).mono ?_; rintro e w' ⟨rfl, rfl⟩)
      refine (H2 _ (by repeat first | exact hF1 | refine Fr.drewN ?_ _ | refine Fr.alloc ?_ _)).mono ?_
      rintro e w2 ⟨rfl, hF2⟩
      have hG : Fr (fun _ => False) w w2 := (by repeat first | exact hF1 | refine Fr.drewN ?_ _ | refine Fr.alloc ?_ _ : Fr (fun _ => False) w _).trans hF2 (fun _ _ h => h)
      have hq := hF2.cell_some (p := ⟨w1.heap.size, 0, none⟩) (v := .int .i64 t) (by simp) (fun h => h)
      go_wp2_with (go_at_call 90; refine (msg_within _ _ _ _).mono ?_; rintro e w' ⟨rfl, rfl⟩)
      go_ret
      exact ⟨rfl, by repeat first | assumption | refine Fr.drewN ?_ _ | refine Fr.alloc ?_ _⟩
    · have HR : Hid ((MsgM.trigger a t c).right = within c 0 3) := (by simp [MsgM.right, hT, hA] : (MsgM.trigger a t c).right = within c 0 3)
      rw [HR.out]
      go_enter Tryz.func48, Tryz.ntmps48
      go_wp2_with fail
      refine (H1 _ (Fr.refl _ _)).mono ?_
      rintro e w1 ⟨rfl, hF1⟩
      go_wp2_with (go_at_call 90; refine (msg_within _ _ _ _).mono ?_; rintro e w' ⟨rfl, rfl⟩)
      refine (H2 _ (by repeat first | exact hF1 | refine Fr.drewN ?_ _ | refine Fr.alloc ?_ _)).mono ?_
      rintro e w2 ⟨rfl, hF2⟩
      have hG : Fr (fun _ => False) w w2 := (by repeat first | exact hF1 | refine Fr.drewN ?_ _ | refine Fr.alloc ?_ _ : Fr (fun _ => False) w _).trans hF2 (fun _ _ h => h)
      have hq := hF2.cell_some (p := ⟨w1.heap.size, 0, none⟩) (v := .int .i64 t) (by simp) (fun h => h)
      go_wp2_with (go_at_call 90; refine (msg_within _ _ _ _).mono ?_; rintro e w' ⟨rfl, rfl⟩)
      go_ret
      exact ⟨rfl, by repeat first | assumption | refine Fr.drewN ?_ _ | refine Fr.alloc ?_ _⟩
set_option maxHeartbeats 1000000 in
theorem msg_right_pinned (F : Nat → Prop) (w : World) (v : Value) (p : PinM) (hcl : (p.crumbs.length : Int) ≤ 1000000) (h : MsgR F w v (.pinned p)) : Calls Tryz.prog 48 #[v] w (RetB (MsgM.pinned p).right w) := by
  have H1 : ∀ W, Fr (fun _ => False) w W → Calls Tryz.prog 89 #[v] W (OfPost W (p.trace, p.job, true)) := fun W hW => msg_of F W v _ (h.fr hW (fun _ _ h => h))
  have H2 : ∀ W, Fr (fun _ => False) w W → Calls Tryz.prog 91 #[v] W (AgPost W (p.agent, true)) := fun W hW => msg_agent F W v _ (h.fr hW (fun _ _ h => h))
  obtain ⟨cv, rfl, hr⟩ := h
  have HAg : ∀ W, Fr (fun _ => False) w W → Calls Tryz.prog 92 #[cv] W fun e w' => e = .returned (.bool (agentsS p.crumbs)) ∧ W = w' := fun W hW => msg_agents F W cv p.crumbs (Rs.fr hr hW (fun _ _ h => h)) hcl
  obtain ⟨ca, cc, rfl, -⟩ := Rs.shape hr
  cases hT : within p.trace 1 65535
  · have HR : Hid ((MsgM.pinned p).right = false) := (by simp [MsgM.right, PinM.right, hT] : (MsgM.pinned p).right = false)
    rw [HR.out]
    go_enter Tryz.func48, Tryz.ntmps48
    go_wp2_with fail
    refine (H1 _ (Fr.refl _ _)).mono ?_
    rintro e w1 ⟨rfl, hF1⟩
    go_wp2_with (go_at_call 90; refine (msg_within _ _ _ _).mono ?_; rintro e w' ⟨rfl, rfl⟩)
    go_ret
    exact ⟨rfl, by repeat first | assumption | refine Fr.drewN ?_ _ | refine Fr.alloc ?_ _⟩
  · cases hA : within p.agent 0 3
    · have HR : Hid ((MsgM.pinned p).right = false) := (by simp [MsgM.right, PinM.right, hA] : (MsgM.pinned p).right = false)
      rw [HR.out]
      go_enter Tryz.func48, Tryz.ntmps48
      go_wp2_with fail
      refine (H1 _ (Fr.refl _ _)).mono ?_
      rintro e w1 ⟨rfl, hF1⟩
      go_wp2_with (go_at_call 90; refine (msg_within _ _ _ _).mono ?_; rintro e w' ⟨rfl, rfl⟩)
      refine (H2 _ (by repeat first | exact hF1 | refine Fr.drewN ?_ _ | refine Fr.alloc ?_ _)).mono ?_
      rintro e w2 ⟨rfl, hF2⟩
      have hG : Fr (fun _ => False) w w2 := (by repeat first | exact hF1 | refine Fr.drewN ?_ _ | refine Fr.alloc ?_ _ : Fr (fun _ => False) w _).trans hF2 (fun _ _ h => h)
      have hq := hF2.cell_some (p := ⟨w1.heap.size, 0, none⟩) (v := .int .i64 p.trace) (by simp) (fun h => h)
      go_wp2_with (go_at_call 90; refine (msg_within _ _ _ _).mono ?_; rintro e w' ⟨rfl, rfl⟩)
      go_ret
      exact ⟨rfl, by repeat first | assumption | refine Fr.drewN ?_ _ | refine Fr.alloc ?_ _⟩
    · cases hJ : within p.job 1 1073741824
      · have HR : Hid ((MsgM.pinned p).right = false) := (by simp [MsgM.right, PinM.right, hJ] : (MsgM.pinned p).right = false)
        rw [HR.out]
        go_enter Tryz.func48, Tryz.ntmps48
        go_wp2_with fail
        refine (H1 _ (Fr.refl _ _)).mono ?_
        rintro e w1 ⟨rfl, hF1⟩
        go_wp2_with (go_at_call 90; refine (msg_within _ _ _ _).mono ?_; rintro e w' ⟨rfl, rfl⟩)
        refine (H2 _ (by repeat first | exact hF1 | refine Fr.drewN ?_ _ | refine Fr.alloc ?_ _)).mono ?_
        rintro e w2 ⟨rfl, hF2⟩
        have hG : Fr (fun _ => False) w w2 := (by repeat first | exact hF1 | refine Fr.drewN ?_ _ | refine Fr.alloc ?_ _ : Fr (fun _ => False) w _).trans hF2 (fun _ _ h => h)
        have hq := hF2.cell_some (p := ⟨w1.heap.size, 0, none⟩) (v := .int .i64 p.trace) (by simp) (fun h => h)
        go_wp2_with (go_at_call 90; refine (msg_within _ _ _ _).mono ?_; rintro e w' ⟨rfl, rfl⟩)
        go_ret
        exact ⟨rfl, by repeat first | assumption | refine Fr.drewN ?_ _ | refine Fr.alloc ?_ _⟩
      · cases hC : within p.count 0 1000
        · have HR : Hid ((MsgM.pinned p).right = false) := (by simp [MsgM.right, PinM.right, hC] : (MsgM.pinned p).right = false)
          rw [HR.out]
          go_enter Tryz.func48, Tryz.ntmps48
          go_wp2_with fail
          refine (H1 _ (Fr.refl _ _)).mono ?_
          rintro e w1 ⟨rfl, hF1⟩
          go_wp2_with (go_at_call 90; refine (msg_within _ _ _ _).mono ?_; rintro e w' ⟨rfl, rfl⟩)
          refine (H2 _ (by repeat first | exact hF1 | refine Fr.drewN ?_ _ | refine Fr.alloc ?_ _)).mono ?_
          rintro e w2 ⟨rfl, hF2⟩
          have hG : Fr (fun _ => False) w w2 := (by repeat first | exact hF1 | refine Fr.drewN ?_ _ | refine Fr.alloc ?_ _ : Fr (fun _ => False) w _).trans hF2 (fun _ _ h => h)
          have hq := hF2.cell_some (p := ⟨w1.heap.size, 0, none⟩) (v := .int .i64 p.trace) (by simp) (fun h => h)
          go_wp2_with (go_at_call 90; refine (msg_within _ _ _ _).mono ?_; rintro e w' ⟨rfl, rfl⟩)
          go_ret
          exact ⟨rfl, by repeat first | assumption | refine Fr.drewN ?_ _ | refine Fr.alloc ?_ _⟩
        · have HR : Hid ((MsgM.pinned p).right = agentsS p.crumbs) := (by simp [MsgM.right, PinM.right, hT, hA, hJ, hC] : (MsgM.pinned p).right = agentsS p.crumbs)
          rw [HR.out]
          go_enter Tryz.func48, Tryz.ntmps48
          go_wp2_with fail
          refine (H1 _ (Fr.refl _ _)).mono ?_
          rintro e w1 ⟨rfl, hF1⟩
          go_wp2_with (go_at_call 90; refine (msg_within _ _ _ _).mono ?_; rintro e w' ⟨rfl, rfl⟩)
          refine (H2 _ (by repeat first | exact hF1 | refine Fr.drewN ?_ _ | refine Fr.alloc ?_ _)).mono ?_
          rintro e w2 ⟨rfl, hF2⟩
          have hG : Fr (fun _ => False) w w2 := (by repeat first | exact hF1 | refine Fr.drewN ?_ _ | refine Fr.alloc ?_ _ : Fr (fun _ => False) w _).trans hF2 (fun _ _ h => h)
          have hq := hF2.cell_some (p := ⟨w1.heap.size, 0, none⟩) (v := .int .i64 p.trace) (by simp) (fun h => h)
          go_wp2_with (go_at_call 90; refine (msg_within _ _ _ _).mono ?_; rintro e w' ⟨rfl, rfl⟩)
          refine (HAg _ (by repeat first | exact hG | refine Fr.drewN ?_ _ | refine Fr.alloc ?_ _)).mono ?_
          rintro e w' ⟨rfl, rfl⟩
          go_wp2
          go_ret
          exact ⟨rfl, by repeat first | exact hG | refine Fr.drewN ?_ _ | refine Fr.alloc ?_ _⟩
set_option maxHeartbeats 1000000 in
theorem msg_right_chunk (F : Nat → Prop) (w : World) (v : Value) (a t j i n : Int) (s : List Sp) (hsl : (s.length : Int) ≤ 1000000) (h : MsgR F w v (.chunk a t j i n s)) : Calls Tryz.prog 48 #[v] w (RetB (MsgM.chunk a t j i n s).right w) := by
  have H1 : ∀ W, Fr (fun _ => False) w W → Calls Tryz.prog 89 #[v] W (OfPost W (t, j, true)) := fun W hW => msg_of F W v _ (h.fr hW (fun _ _ h => h))
  have H2 : ∀ W, Fr (fun _ => False) w W → Calls Tryz.prog 91 #[v] W (AgPost W (a, true)) := fun W hW => msg_agent F W v _ (h.fr hW (fun _ _ h => h))
  obtain ⟨cv, rfl, hr⟩ := h
  have HC : ∀ W q, Fr (fun _ => False) w W → W.cell? q = some (.int .i64 t) → Calls Tryz.prog 95 #[cv, .func (.func 93) #[] #[.pointer (some q)]] W (RetB (s.any (fun x => !spOk x || !decide (x.tr = t))) W) := fun W q hW hq =>
    contains_spans F (.pointer (some q)) W _ cv s (Rs.fr hr hW (fun _ _ h => h)) hsl (fun x W' hW' => right_fn x t q W' (hW'.cell_some hq (fun h => h)))
  obtain ⟨ca, cc, rfl, -⟩ := Rs.shape hr
  cases hT : within t 1 65535
  · have HR : Hid ((MsgM.chunk a t j i n s).right = false) := (by simp [MsgM.right, hT] : (MsgM.chunk a t j i n s).right = false)
    rw [HR.out]
    go_enter Tryz.func48, Tryz.ntmps48
    go_wp2_with fail
    refine (H1 _ (Fr.refl _ _)).mono ?_
    rintro e w1 ⟨rfl, hF1⟩
    go_wp2_with (go_at_call 90; refine (msg_within _ _ _ _).mono ?_; rintro e w' ⟨rfl, rfl⟩)
    go_ret
    exact ⟨rfl, by repeat first | assumption | refine Fr.drewN ?_ _ | refine Fr.alloc ?_ _⟩
  · cases hA : within a 0 3
    · have HR : Hid ((MsgM.chunk a t j i n s).right = false) := (by simp [MsgM.right, hA] : (MsgM.chunk a t j i n s).right = false)
      rw [HR.out]
      go_enter Tryz.func48, Tryz.ntmps48
      go_wp2_with fail
      refine (H1 _ (Fr.refl _ _)).mono ?_
      rintro e w1 ⟨rfl, hF1⟩
      go_wp2_with (go_at_call 90; refine (msg_within _ _ _ _).mono ?_; rintro e w' ⟨rfl, rfl⟩)
      refine (H2 _ (by repeat first | exact hF1 | refine Fr.drewN ?_ _ | refine Fr.alloc ?_ _)).mono ?_
      rintro e w2 ⟨rfl, hF2⟩
      have hG : Fr (fun _ => False) w w2 := (by repeat first | exact hF1 | refine Fr.drewN ?_ _ | refine Fr.alloc ?_ _ : Fr (fun _ => False) w _).trans hF2 (fun _ _ h => h)
      have hq := hF2.cell_some (p := ⟨w1.heap.size, 0, none⟩) (v := .int .i64 t) (by simp) (fun h => h)
      go_wp2_with (go_at_call 90; refine (msg_within _ _ _ _).mono ?_; rintro e w' ⟨rfl, rfl⟩)
      go_ret
      exact ⟨rfl, by repeat first | assumption | refine Fr.drewN ?_ _ | refine Fr.alloc ?_ _⟩
    · cases hJ : within j 1 1073741824
      · have HR : Hid ((MsgM.chunk a t j i n s).right = false) := (by simp [MsgM.right, hJ] : (MsgM.chunk a t j i n s).right = false)
        rw [HR.out]
        go_enter Tryz.func48, Tryz.ntmps48
        go_wp2_with fail
        refine (H1 _ (Fr.refl _ _)).mono ?_
        rintro e w1 ⟨rfl, hF1⟩
        go_wp2_with (go_at_call 90; refine (msg_within _ _ _ _).mono ?_; rintro e w' ⟨rfl, rfl⟩)
        refine (H2 _ (by repeat first | exact hF1 | refine Fr.drewN ?_ _ | refine Fr.alloc ?_ _)).mono ?_
        rintro e w2 ⟨rfl, hF2⟩
        have hG : Fr (fun _ => False) w w2 := (by repeat first | exact hF1 | refine Fr.drewN ?_ _ | refine Fr.alloc ?_ _ : Fr (fun _ => False) w _).trans hF2 (fun _ _ h => h)
        have hq := hF2.cell_some (p := ⟨w1.heap.size, 0, none⟩) (v := .int .i64 t) (by simp) (fun h => h)
        go_wp2_with (go_at_call 90; refine (msg_within _ _ _ _).mono ?_; rintro e w' ⟨rfl, rfl⟩)
        go_ret
        exact ⟨rfl, by repeat first | assumption | refine Fr.drewN ?_ _ | refine Fr.alloc ?_ _⟩
      · cases hN : within n 1 500
        · have HR : Hid ((MsgM.chunk a t j i n s).right = false) := (by simp [MsgM.right, hN] : (MsgM.chunk a t j i n s).right = false)
          rw [HR.out]
          go_enter Tryz.func48, Tryz.ntmps48
          go_wp2_with fail
          refine (H1 _ (Fr.refl _ _)).mono ?_
          rintro e w1 ⟨rfl, hF1⟩
          go_wp2_with (go_at_call 90; refine (msg_within _ _ _ _).mono ?_; rintro e w' ⟨rfl, rfl⟩)
          refine (H2 _ (by repeat first | exact hF1 | refine Fr.drewN ?_ _ | refine Fr.alloc ?_ _)).mono ?_
          rintro e w2 ⟨rfl, hF2⟩
          have hG : Fr (fun _ => False) w w2 := (by repeat first | exact hF1 | refine Fr.drewN ?_ _ | refine Fr.alloc ?_ _ : Fr (fun _ => False) w _).trans hF2 (fun _ _ h => h)
          have hq := hF2.cell_some (p := ⟨w1.heap.size, 0, none⟩) (v := .int .i64 t) (by simp) (fun h => h)
          go_wp2_with (go_at_call 90; refine (msg_within _ _ _ _).mono ?_; rintro e w' ⟨rfl, rfl⟩)
          go_ret
          exact ⟨rfl, by repeat first | assumption | refine Fr.drewN ?_ _ | refine Fr.alloc ?_ _⟩
        · cases hI : within i 0 (n - 1)
          · obtain ⟨n1, n2⟩ := within_bd hN
            have HR : Hid ((MsgM.chunk a t j i n s).right = false) := (by simp [MsgM.right, hI] : (MsgM.chunk a t j i n s).right = false)
            rw [HR.out]
            go_enter Tryz.func48, Tryz.ntmps48
            go_wp2_with fail
            refine (H1 _ (Fr.refl _ _)).mono ?_
            rintro e w1 ⟨rfl, hF1⟩
            go_wp2_with (go_at_call 90; refine (msg_within _ _ _ _).mono ?_; rintro e w' ⟨rfl, rfl⟩)
            refine (H2 _ (by repeat first | exact hF1 | refine Fr.drewN ?_ _ | refine Fr.alloc ?_ _)).mono ?_
            rintro e w2 ⟨rfl, hF2⟩
            have hG : Fr (fun _ => False) w w2 := (by repeat first | exact hF1 | refine Fr.drewN ?_ _ | refine Fr.alloc ?_ _ : Fr (fun _ => False) w _).trans hF2 (fun _ _ h => h)
            have hq := hF2.cell_some (p := ⟨w1.heap.size, 0, none⟩) (v := .int .i64 t) (by simp) (fun h => h)
            go_wp2_with (go_at_call 90; refine (msg_within _ _ _ _).mono ?_; rintro e w' ⟨rfl, rfl⟩)
            go_ret
            exact ⟨rfl, by repeat first | assumption | refine Fr.drewN ?_ _ | refine Fr.alloc ?_ _⟩
          · cases hL : decide ((s.length : Int) ≤ 2)
            · obtain ⟨n1, n2⟩ := within_bd hN
              have hL2 : ¬ s.length ≤ 2 := by simp at hL; omega
              have hL3 : (2 : Int) < s.length := by omega
              have HR : Hid ((MsgM.chunk a t j i n s).right = false) := (by simp [MsgM.right, hL2] : (MsgM.chunk a t j i n s).right = false)
              rw [HR.out]
              go_enter Tryz.func48, Tryz.ntmps48
              go_wp2_with fail
              refine (H1 _ (Fr.refl _ _)).mono ?_
              rintro e w1 ⟨rfl, hF1⟩
              go_wp2_with (go_at_call 90; refine (msg_within _ _ _ _).mono ?_; rintro e w' ⟨rfl, rfl⟩)
              refine (H2 _ (by repeat first | exact hF1 | refine Fr.drewN ?_ _ | refine Fr.alloc ?_ _)).mono ?_
              rintro e w2 ⟨rfl, hF2⟩
              have hG : Fr (fun _ => False) w w2 := (by repeat first | exact hF1 | refine Fr.drewN ?_ _ | refine Fr.alloc ?_ _ : Fr (fun _ => False) w _).trans hF2 (fun _ _ h => h)
              have hq := hF2.cell_some (p := ⟨w1.heap.size, 0, none⟩) (v := .int .i64 t) (by simp) (fun h => h)
              go_wp2_with (go_at_call 90; refine (msg_within _ _ _ _).mono ?_; rintro e w' ⟨rfl, rfl⟩)
              go_ret
              exact ⟨rfl, by repeat first | assumption | refine Fr.drewN ?_ _ | refine Fr.alloc ?_ _⟩
            · obtain ⟨n1, n2⟩ := within_bd hN
              have hL2 : s.length ≤ 2 := by simp at hL; omega
              have hL3 : (s.length : Int) ≤ 2 := by omega
              have HR : Hid ((MsgM.chunk a t j i n s).right = !(s.any (fun x => !spOk x || !decide (x.tr = t)))) := (by simp only [MsgM.right]; rw [hT, hA, hJ, hN, hI, decide_eq_true hL2, all_right]; rfl : (MsgM.chunk a t j i n s).right = !(s.any (fun x => !spOk x || !decide (x.tr = t))))
              rw [HR.out]
              go_enter Tryz.func48, Tryz.ntmps48
              go_wp2_with fail
              refine (H1 _ (Fr.refl _ _)).mono ?_
              rintro e w1 ⟨rfl, hF1⟩
              go_wp2_with (go_at_call 90; refine (msg_within _ _ _ _).mono ?_; rintro e w' ⟨rfl, rfl⟩)
              refine (H2 _ (by repeat first | exact hF1 | refine Fr.drewN ?_ _ | refine Fr.alloc ?_ _)).mono ?_
              rintro e w2 ⟨rfl, hF2⟩
              have hG : Fr (fun _ => False) w w2 := (by repeat first | exact hF1 | refine Fr.drewN ?_ _ | refine Fr.alloc ?_ _ : Fr (fun _ => False) w _).trans hF2 (fun _ _ h => h)
              have hq := hF2.cell_some (p := ⟨w1.heap.size, 0, none⟩) (v := .int .i64 t) (by simp) (fun h => h)
              go_wp2_with (go_at_call 90; refine (msg_within _ _ _ _).mono ?_; rintro e w' ⟨rfl, rfl⟩)
              refine (HC _ ⟨w1.heap.size, 0, none⟩ (by repeat first | exact hG | refine Fr.drewN ?_ _ | refine Fr.alloc ?_ _) ((by repeat first | exact Fr.refl _ _ | refine Fr.drewN ?_ _ | refine Fr.alloc ?_ _ : Fr (fun _ => False) w2 _).cell_some hq (fun h => h))).mono ?_
              rintro e w3 ⟨rfl, hF3⟩
              go_wp2
              go_ret
              exact ⟨rfl, (by repeat first | exact hG | refine Fr.drewN ?_ _ | refine Fr.alloc ?_ _ : Fr (fun _ => False) w _).trans hF3 (fun _ _ h => h)⟩
theorem msg_right_nil (F : Nat → Prop) (w : World) (v : Value) (h : MsgR F w v .none) : Calls Tryz.prog 48 #[v] w (RetB MsgM.none.right w) := by
  have H1 : Calls Tryz.prog 89 #[v] w (OfPost w (0, 0, false)) := msg_of F w v _ h
  obtain rfl := h
  go_enter Tryz.func48, Tryz.ntmps48
  go_wp2_with fail
  refine H1.mono ?_
  rintro e w1 ⟨rfl, hF1⟩
  go_wp2
  go_ret
  exact ⟨rfl, by repeat first | assumption | refine Fr.drewN ?_ _ | refine Fr.alloc ?_ _⟩
end Go.Proofs.YtkjggglmemafgaaGreat
