import Derived.Test.YtkjggglmemafgaaGreatMsgT
namespace Go.Proofs.YtkjggglmemafgaaGreat
open Go Go.RowKit
set_option linter.unusedVariables false
set_option linter.unusedSimpArgs false
set_option maxRecDepth 20000

theorem within_yes {n lo hi : Int} (h1 : lo ≤ n) (h2 : n ≤ hi) : within n lo hi = true := by simp [within, h1, h2]
theorem within_no1 {n lo hi : Int} (h1 : ¬ lo ≤ n) : within n lo hi = false := by simp [within, h1]
theorem within_no2 {n lo hi : Int} (h1 : ¬ n ≤ hi) : within n lo hi = false := by simp [within, h1]
theorem msg_within (w : World) (n lo hi : Int) : Calls Tryz.prog 90 #[.int .i64 n, .int .i64 lo, .int .i64 hi] w fun e w' => e = .returned (.bool (within n lo hi)) ∧ w = w' := by
  by_cases h1 : lo ≤ n
  · by_cases h2 : n ≤ hi
    · rw [within_yes h1 h2]
      go_enter Tryz.func90, Tryz.ntmps90
      go_wp2
      go_ret
      exact ⟨rfl, rfl⟩
    · rw [within_no2 h2]
      go_enter Tryz.func90, Tryz.ntmps90
      go_wp2
      go_ret
      exact ⟨rfl, rfl⟩
  · rw [within_no1 h1]
    go_enter Tryz.func90, Tryz.ntmps90
    go_wp2
    go_ret
    exact ⟨rfl, rfl⟩

def OfPost (w : World) (r : Int × Int × Bool) (e : Ending) (w' : World) : Prop := e = .returned (.tuple #[.int .i64 r.1, .int .i64 r.2.1, .bool r.2.2]) ∧ Fr (fun _ => False) w w'
theorem OfPost.of {w w' : World} {t j : Int} {b : Bool} (h : Fr (fun _ => False) w w') : OfPost w (t, j, b) (.returned (.tuple #[.int .i64 t, .int .i64 j, .bool b])) w' := ⟨rfl, h⟩
theorem msg_of (F : Nat → Prop) (w : World) (v : Value) (m : MsgM) (h : MsgR F w v m) : Calls Tryz.prog 89 #[v] w (OfPost w m.of) := by
  cases m
  case pinned p =>
    obtain ⟨cv, rfl, hr⟩ := h
    obtain ⟨ca, cc, rfl, -⟩ := Rs.shape hr
    go_enter Tryz.func89, Tryz.ntmps89
    go_wp2
    go_quiet (fail)
    go_wp2
    go_ret3
    exact OfPost.of (by repeat first | exact Fr.refl _ _ | refine Fr.drewN ?_ _ | refine Fr.alloc ?_ _)
  case chunk a t j i n s =>
    obtain ⟨cv, rfl, hr⟩ := h
    obtain ⟨ca, cc, rfl, -⟩ := Rs.shape hr
    go_enter Tryz.func89, Tryz.ntmps89
    go_wp2
    go_quiet (fail)
    go_wp2
    go_ret3
    exact OfPost.of (by repeat first | exact Fr.refl _ _ | refine Fr.drewN ?_ _ | refine Fr.alloc ?_ _)
  case manifest t j c ps =>
    obtain ⟨cv, rfl, cvs, -, hr, -⟩ := h
    obtain ⟨ca, cc, rfl, -⟩ := Rs.shape hr
    go_enter Tryz.func89, Tryz.ntmps89
    go_wp2
    go_quiet (fail)
    go_wp2
    go_ret3
    exact OfPost.of (by repeat first | exact Fr.refl _ _ | refine Fr.drewN ?_ _ | refine Fr.alloc ?_ _)
  case trigger a t c =>
    obtain rfl := h
    go_enter Tryz.func89, Tryz.ntmps89
    go_wp2
    go_ret3
    exact OfPost.of (by repeat first | exact Fr.refl _ _ | refine Fr.drewN ?_ _ | refine Fr.alloc ?_ _)
  case none =>
    obtain rfl := h
    go_enter Tryz.func89, Tryz.ntmps89
    go_wp2
    go_ret3
    exact OfPost.of (by repeat first | exact Fr.refl _ _ | refine Fr.drewN ?_ _ | refine Fr.alloc ?_ _)
  all_goals
    obtain rfl := h
    go_enter Tryz.func89, Tryz.ntmps89
    go_wp2
    go_quiet (fail)
    go_wp2
    go_ret3
    exact OfPost.of (by repeat first | exact Fr.refl _ _ | refine Fr.drewN ?_ _ | refine Fr.alloc ?_ _)
end Go.Proofs.YtkjggglmemafgaaGreat
