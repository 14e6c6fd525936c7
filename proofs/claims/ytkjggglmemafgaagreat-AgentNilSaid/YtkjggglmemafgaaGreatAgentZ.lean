import Derived.Test.YtkjggglmemafgaaGreatAgent
namespace Go.Proofs.YtkjggglmemafgaaGreat
open Go Go.RowKit
set_option linter.unusedVariables false
set_option linter.unusedSimpArgs false
set_option maxRecDepth 20000

/-! ### an agent that is none -/
section
variable {w0 w : World} {R : List Asn}
def RetS (w0 : World) (R : List Asn) (v : Value) (e : Ending) (w' : World) : Prop := e = .returned v ∧ St w0 R w'
theorem nil_span (h : St w0 R w) (t : Int) (s : ByteArray) : Calls Tryz.prog 12 #[.pointer none, .int .i64 t, .string s] w (RetS w0 R (.tuple #[.agg #[.int .i64 0, .int .i64 0, .string ByteArray.empty], .int .i64 9])) := by
  have h2 := ((((h.alloc [.int .i64 0, .int .i64 0, .string ByteArray.empty] 37 rfl).set 0 (.int .i64 0)).set 1 (.int .i64 0)).set 2 (.string ByteArray.empty))
  have e0 := h2.blk.get (i := 0) rfl
  have e1 := h2.blk.get (i := 1) rfl
  have e2 := h2.blk.get (i := 2) rfl
  go_enter Tryz.func12, Tryz.ntmps12
  go_wp2
  exact bodyPost_ret (v := .tuple #[.agg #[.int .i64 0, .int .i64 0, .string ByteArray.empty], .int .i64 9]) (by simp [results, Tryz.results12, go_sem]; rfl) rfl ⟨rfl, by first | exact h2.drop | exact h.skip _⟩
theorem nil_trigger (h : St w0 R w) (t c : Int) : Calls Tryz.prog 20 #[.pointer none, .int .i64 t, .int .i64 c] w (RetS w0 R (.tuple #[.agg #[.int .i64 0, .int .i64 0, .int .i64 0], .int .i64 9])) := by
  have h2 := ((((h.alloc [.int .i64 0, .int .i64 0, .int .i64 0] 58 rfl).set 0 (.int .i64 0)).set 1 (.int .i64 0)).set 2 (.int .i64 0))
  have e0 := h2.blk.get (i := 0) rfl
  have e1 := h2.blk.get (i := 1) rfl
  have e2 := h2.blk.get (i := 2) rfl
  go_enter Tryz.func20, Tryz.ntmps20
  go_wp2
  exact bodyPost_ret (v := .tuple #[.agg #[.int .i64 0, .int .i64 0, .int .i64 0], .int .i64 9]) (by simp [results, Tryz.results20, go_sem]) rfl ⟨rfl, by first | exact h2.drop | exact h.skip _⟩
theorem nil_hear (h : St w0 R w) (mv : Value) : Calls Tryz.prog 14 #[.pointer none, mv] w (RetS w0 R (.tuple #[.slice none 0 0, .slice none 0 0])) := by
  go_enter Tryz.func14, Tryz.ntmps14
  go_wp2
  exact bodyPost_ret (v := .tuple #[.slice none 0 0, .slice none 0 0]) (by simp [results, Tryz.results14, go_sem]) rfl ⟨rfl, h⟩
theorem nil_crumb (h : St w0 R w) (t o : Int) : Calls Tryz.prog 13 #[.pointer none, .int .i64 t, .int .i64 o] w (RetS w0 R (.int .i64 9)) := by
  go_enter Tryz.func13, Tryz.ntmps13
  go_wp2
  go_ret
  exact ⟨rfl, h⟩
theorem nil_tick (h : St w0 R w) : Calls Tryz.prog 21 #[.pointer none] w (RetS w0 R (.slice none 0 0)) := by
  go_enter Tryz.func21, Tryz.ntmps21
  go_wp2
  go_ret
  exact ⟨rfl, h⟩
theorem nil_spans (h : St w0 R w) (t : Int) : Calls Tryz.prog 17 #[.pointer none, .int .i64 t] w (RetS w0 R (.slice none 0 0)) := by
  go_enter Tryz.func17, Tryz.ntmps17
  go_wp2
  go_ret
  exact ⟨rfl, h⟩
theorem nil_crumbs (h : St w0 R w) (t : Int) : Calls Tryz.prog 18 #[.pointer none, .int .i64 t] w (RetS w0 R (.slice none 0 0)) := by
  go_enter Tryz.func18, Tryz.ntmps18
  go_wp2
  go_ret
  exact ⟨rfl, h⟩
theorem nil_job (h : St w0 R w) (t : Int) : Calls Tryz.prog 16 #[.pointer none, .int .i64 t] w (RetS w0 R (.int .i64 0)) := by
  go_enter Tryz.func16, Tryz.ntmps16
  go_wp2
  go_ret
  exact ⟨rfl, h⟩
theorem nil_lost (h : St w0 R w) (t : Int) : Calls Tryz.prog 19 #[.pointer none, .int .i64 t] w (RetS w0 R (.bool false)) := by
  go_enter Tryz.func19, Tryz.ntmps19
  go_wp2
  go_ret
  exact ⟨rfl, h⟩
theorem nil_used (h : St w0 R w) : Calls Tryz.prog 22 #[.pointer none] w (RetS w0 R (.int .i64 0)) := by
  go_enter Tryz.func22, Tryz.ntmps22
  go_wp2
  go_ret
  exact ⟨rfl, h⟩
theorem nil_evicted (h : St w0 R w) : Calls Tryz.prog 39 #[.pointer none] w (RetS w0 R (.slice none 0 0)) := by
  go_enter Tryz.func39, Tryz.ntmps39
  go_wp2
  go_ret
  exact ⟨rfl, h⟩
end
end Go.Proofs.YtkjggglmemafgaaGreat
