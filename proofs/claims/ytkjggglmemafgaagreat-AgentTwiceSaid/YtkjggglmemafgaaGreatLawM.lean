import Derived.Test.YtkjggglmemafgaaGreatObj
import Derived.Test.YtkjggglmemafgaaGreatMsgM
namespace Go.Proofs.YtkjggglmemafgaaGreat
open Go Go.RowKit
set_option linter.unusedVariables false
set_option linter.unusedSimpArgs false
set_option maxRecDepth 20000

/-! ### messages of calls -/
section
variable {w0 w : World} {R : List Asn}
structure OpM where
  kind : Int
  trace : Int
  n : Int
  s : ByteArray
def OpM.cs (o : OpM) : List Value := [.int .i64 o.kind, .int .i64 o.trace, .int .i64 o.n, .string o.s]
def OpM.V (o : OpM) : Value := .agg #[.int .i64 o.kind, .int .i64 o.trace, .int .i64 o.n, .string o.s]
def makeM (k t j : Int) : MsgM := if k = 8 then .stored t j else if k = 9 then .unpin t j else if k = 10 then .unpinned 1 t j else .none
def OpM.msg (o : OpM) : MsgM := if o.kind = 1 ∨ o.kind = 2 ∨ o.kind = 3 ∨ o.kind = 4 then .none else if o.kind = 5 then .pin o.trace o.n else if o.kind = 6 then .collect o.trace o.n else if o.kind = 7 then .unpin o.trace o.n else makeM o.kind o.trace o.n
/-- the value of a message that holds nothing -/
def MsgM.val : MsgM → Value
  | .trigger a t c => .iface 58 (.agg #[.int .i64 a, .int .i64 t, .int .i64 c])
  | .pin t j => .iface 48 (.agg #[.int .i64 t, .int .i64 j])
  | .gone a t j => .iface 139 (.agg #[.int .i64 a, .int .i64 t, .int .i64 j])
  | .collect t j => .iface 99 (.agg #[.int .i64 t, .int .i64 j])
  | .stored t j => .iface 145 (.agg #[.int .i64 t, .int .i64 j])
  | .unpin t j => .iface 49 (.agg #[.int .i64 t, .int .i64 j])
  | .unpinned a t j => .iface 146 (.agg #[.int .i64 a, .int .i64 t, .int .i64 j])
  | _ => .nilIface
def RetS' (w0 : World) (R : List Asn) (v : Value) (e : Ending) (w' : World) : Prop := e = .returned v ∧ St w0 R w'
theorem law_make (h : St w0 R w) (k t j : Int) (h1 : k ≠ 1) (h2 : k ≠ 2) (h3 : k ≠ 3) (h4 : k ≠ 4) (h5 : k ≠ 5) (h6 : k ≠ 6) (h7 : k ≠ 7) :
    Calls Tryz.prog 52 #[.int .i64 k, .int .i64 1, .int .i64 t, .int .i64 j, .int .i64 0, .int .i64 1, .slice none 0 0, .bool false, .slice none 0 0] w (RetS' w0 R (makeM k t j).val) := by
  have h9 := (h.alloc [.int .i64 1, .int .i64 t, .int .i64 j, .int .i64 1, .slice none 0 0, .bool false] 136 rfl)
  have e1 : ((k : Int) == 1) = false := by simpa using h1
  have e2 : ((k : Int) == 2) = false := by simpa using h2
  have e3 : ((k : Int) == 3) = false := by simpa using h3
  have e4 : ((k : Int) == 4) = false := by simpa using h4
  have e5 : ((k : Int) == 5) = false := by simpa using h5
  have e6 : ((k : Int) == 6) = false := by simpa using h6
  have e7 : ((k : Int) == 7) = false := by simpa using h7
  by_cases h8 : k = 8
  · have e : makeM k t j = .stored t j := by rw [makeM, if_pos h8]
    rw [e]
    have e8 : ((k : Int) == 8) = true := by simpa using h8
    clear h1 h2 h3 h4 h5 h6 h7 h8 e
    go_enter Tryz.func52, Tryz.ntmps52
    go_wp2
    go_ret
    exact ⟨rfl, by first | exact h9.drop | exact h.fr (by repeat first | exact Fr.refl _ _ | refine Fr.alloc ?_ _)⟩
  · have e8 : ((k : Int) == 8) = false := by simpa using h8
    by_cases h9' : k = 9
    · have e : makeM k t j = .unpin t j := by rw [makeM, if_neg h8, if_pos h9']
      rw [e]
      have e9 : ((k : Int) == 9) = true := by simpa using h9'
      clear h1 h2 h3 h4 h5 h6 h7 h8 h9' e
      go_enter Tryz.func52, Tryz.ntmps52
      go_wp2
      go_ret
      exact ⟨rfl, h9.drop⟩
    · have e9 : ((k : Int) == 9) = false := by simpa using h9'
      by_cases h10 : k = 10
      · have e : makeM k t j = .unpinned 1 t j := by rw [makeM, if_neg h8, if_neg h9', if_pos h10]
        rw [e]
        have e10 : ((k : Int) == 10) = true := by simpa using h10
        clear h1 h2 h3 h4 h5 h6 h7 h8 h9' h10 e
        go_enter Tryz.func52, Tryz.ntmps52
        go_wp2
        go_ret
        exact ⟨rfl, h9.drop⟩
      · have e : makeM k t j = .none := by rw [makeM, if_neg h8, if_neg h9', if_neg h10]
        rw [e]
        have e10 : ((k : Int) == 10) = false := by simpa using h10
        clear h1 h2 h3 h4 h5 h6 h7 h8 h9' h10 e
        go_enter Tryz.func52, Tryz.ntmps52
        go_wp2
        go_ret
        exact ⟨rfl, h9.drop⟩
end
end Go.Proofs.YtkjggglmemafgaaGreat
