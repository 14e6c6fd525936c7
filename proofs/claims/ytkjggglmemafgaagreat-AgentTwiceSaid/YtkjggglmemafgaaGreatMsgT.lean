import Derived.Test.YtkjggglmemafgaaGreatMsgM
import Derived.Test.YtkjggglmemafgaaGreatProg
namespace Go.Proofs.YtkjggglmemafgaaGreat
open Go Go.RowKit
set_option maxRecDepth 20000

/-! ### assertions on messages -/
theorem run_as {P : Program} {T : TypeId} {d : TypeDesc} {z : Value} (hu : P.underlying T = some d) (hd : ∀ ms, d ≠ .interface ms) (hz : ∀ w, (zeroValue T).run P w = .ok z w) (K : TypeId) (v : Value) (x : TypeId) (w : World) :
    (Instr.typeAssert (.iface K v) x T true).run P w = .ok (if K = T then .tuple #[v, .bool true] else .tuple #[z, .bool false]) w := by
  simp only [Instr.typeAssert, Sem.run_bind, run_underlying hu, Result.andThen_ok]
  cases d with
  | interface ms => exact absurd rfl (hd ms)
  | _ => by_cases h : K = T <;> simp [h, hz]
theorem run_as_nil {P : Program} {T : TypeId} {d : TypeDesc} {z : Value} (hu : P.underlying T = some d) (hd : ∀ ms, d ≠ .interface ms) (hz : ∀ w, (zeroValue T).run P w = .ok z w) (x : TypeId) (w : World) :
    (Instr.typeAssert .nilIface x T true).run P w = .ok (.tuple #[z, .bool false]) w := by
  simp only [Instr.typeAssert, Sem.run_bind, run_underlying hu, Result.andThen_ok]
  cases d with
  | interface ms => exact absurd rfl (hd ms)
  | _ => simp [hz]
def notIface (d : Option TypeDesc) : Bool := match d with | some (.interface _) => false | some _ => true | none => false
theorem und_of {P : Program} {T : TypeId} (h : notIface (P.underlying T) = true) : ∃ d, P.underlying T = some d ∧ ∀ ms, d ≠ .interface ms := by
  cases hd : P.underlying T with
  | none => rw [hd] at h; cases h
  | some d => exact ⟨d, rfl, fun ms e => by rw [hd, e] at h; cases h⟩
theorem as_Trigger (K : TypeId) (v : Value) (w : World) : (Instr.typeAssert (.iface K v) 45 58 true).run Tryz.prog w = .ok (if K = 58 then .tuple #[v, .bool true] else .tuple #[.agg #[.int .i64 0, .int .i64 0, .int .i64 0], .bool false]) w := by
  obtain ⟨d, hd, hn⟩ := und_of (P := Tryz.prog) (T := 58) (by kernel_rfl)
  exact run_as hd hn (fun _ => by kernel_rfl) K v _ w
theorem as_Trigger_nil (w : World) : (Instr.typeAssert .nilIface 45 58 true).run Tryz.prog w = .ok (.tuple #[.agg #[.int .i64 0, .int .i64 0, .int .i64 0], .bool false]) w := by
  obtain ⟨d, hd, hn⟩ := und_of (P := Tryz.prog) (T := 58) (by kernel_rfl)
  exact run_as_nil hd hn (fun _ => by kernel_rfl) _ w
theorem as_Pin (K : TypeId) (v : Value) (w : World) : (Instr.typeAssert (.iface K v) 45 48 true).run Tryz.prog w = .ok (if K = 48 then .tuple #[v, .bool true] else .tuple #[.agg #[.int .i64 0, .int .i64 0], .bool false]) w := by
  obtain ⟨d, hd, hn⟩ := und_of (P := Tryz.prog) (T := 48) (by kernel_rfl)
  exact run_as hd hn (fun _ => by kernel_rfl) K v _ w
theorem as_Pin_nil (w : World) : (Instr.typeAssert .nilIface 45 48 true).run Tryz.prog w = .ok (.tuple #[.agg #[.int .i64 0, .int .i64 0], .bool false]) w := by
  obtain ⟨d, hd, hn⟩ := und_of (P := Tryz.prog) (T := 48) (by kernel_rfl)
  exact run_as_nil hd hn (fun _ => by kernel_rfl) _ w
theorem as_Pinned (K : TypeId) (v : Value) (w : World) : (Instr.typeAssert (.iface K v) 45 136 true).run Tryz.prog w = .ok (if K = 136 then .tuple #[v, .bool true] else .tuple #[.agg #[.int .i64 0, .int .i64 0, .int .i64 0, .int .i64 0, .slice none 0 0, .bool false], .bool false]) w := by
  obtain ⟨d, hd, hn⟩ := und_of (P := Tryz.prog) (T := 136) (by kernel_rfl)
  exact run_as hd hn (fun _ => by kernel_rfl) K v _ w
theorem as_Pinned_nil (w : World) : (Instr.typeAssert .nilIface 45 136 true).run Tryz.prog w = .ok (.tuple #[.agg #[.int .i64 0, .int .i64 0, .int .i64 0, .int .i64 0, .slice none 0 0, .bool false], .bool false]) w := by
  obtain ⟨d, hd, hn⟩ := und_of (P := Tryz.prog) (T := 136) (by kernel_rfl)
  exact run_as_nil hd hn (fun _ => by kernel_rfl) _ w
theorem as_Gone (K : TypeId) (v : Value) (w : World) : (Instr.typeAssert (.iface K v) 45 139 true).run Tryz.prog w = .ok (if K = 139 then .tuple #[v, .bool true] else .tuple #[.agg #[.int .i64 0, .int .i64 0, .int .i64 0], .bool false]) w := by
  obtain ⟨d, hd, hn⟩ := und_of (P := Tryz.prog) (T := 139) (by kernel_rfl)
  exact run_as hd hn (fun _ => by kernel_rfl) K v _ w
theorem as_Gone_nil (w : World) : (Instr.typeAssert .nilIface 45 139 true).run Tryz.prog w = .ok (.tuple #[.agg #[.int .i64 0, .int .i64 0, .int .i64 0], .bool false]) w := by
  obtain ⟨d, hd, hn⟩ := und_of (P := Tryz.prog) (T := 139) (by kernel_rfl)
  exact run_as_nil hd hn (fun _ => by kernel_rfl) _ w
theorem as_Collect (K : TypeId) (v : Value) (w : World) : (Instr.typeAssert (.iface K v) 45 99 true).run Tryz.prog w = .ok (if K = 99 then .tuple #[v, .bool true] else .tuple #[.agg #[.int .i64 0, .int .i64 0], .bool false]) w := by
  obtain ⟨d, hd, hn⟩ := und_of (P := Tryz.prog) (T := 99) (by kernel_rfl)
  exact run_as hd hn (fun _ => by kernel_rfl) K v _ w
theorem as_Collect_nil (w : World) : (Instr.typeAssert .nilIface 45 99 true).run Tryz.prog w = .ok (.tuple #[.agg #[.int .i64 0, .int .i64 0], .bool false]) w := by
  obtain ⟨d, hd, hn⟩ := und_of (P := Tryz.prog) (T := 99) (by kernel_rfl)
  exact run_as_nil hd hn (fun _ => by kernel_rfl) _ w
theorem as_Chunk (K : TypeId) (v : Value) (w : World) : (Instr.typeAssert (.iface K v) 45 141 true).run Tryz.prog w = .ok (if K = 141 then .tuple #[v, .bool true] else .tuple #[.agg #[.int .i64 0, .int .i64 0, .int .i64 0, .int .i64 0, .int .i64 0, .slice none 0 0], .bool false]) w := by
  obtain ⟨d, hd, hn⟩ := und_of (P := Tryz.prog) (T := 141) (by kernel_rfl)
  exact run_as hd hn (fun _ => by kernel_rfl) K v _ w
theorem as_Chunk_nil (w : World) : (Instr.typeAssert .nilIface 45 141 true).run Tryz.prog w = .ok (.tuple #[.agg #[.int .i64 0, .int .i64 0, .int .i64 0, .int .i64 0, .int .i64 0, .slice none 0 0], .bool false]) w := by
  obtain ⟨d, hd, hn⟩ := und_of (P := Tryz.prog) (T := 141) (by kernel_rfl)
  exact run_as_nil hd hn (fun _ => by kernel_rfl) _ w
theorem as_Manifest (K : TypeId) (v : Value) (w : World) : (Instr.typeAssert (.iface K v) 45 144 true).run Tryz.prog w = .ok (if K = 144 then .tuple #[v, .bool true] else .tuple #[.agg #[.int .i64 0, .int .i64 0, .int .i64 0, .slice none 0 0], .bool false]) w := by
  obtain ⟨d, hd, hn⟩ := und_of (P := Tryz.prog) (T := 144) (by kernel_rfl)
  exact run_as hd hn (fun _ => by kernel_rfl) K v _ w
theorem as_Manifest_nil (w : World) : (Instr.typeAssert .nilIface 45 144 true).run Tryz.prog w = .ok (.tuple #[.agg #[.int .i64 0, .int .i64 0, .int .i64 0, .slice none 0 0], .bool false]) w := by
  obtain ⟨d, hd, hn⟩ := und_of (P := Tryz.prog) (T := 144) (by kernel_rfl)
  exact run_as_nil hd hn (fun _ => by kernel_rfl) _ w
theorem as_Stored (K : TypeId) (v : Value) (w : World) : (Instr.typeAssert (.iface K v) 45 145 true).run Tryz.prog w = .ok (if K = 145 then .tuple #[v, .bool true] else .tuple #[.agg #[.int .i64 0, .int .i64 0], .bool false]) w := by
  obtain ⟨d, hd, hn⟩ := und_of (P := Tryz.prog) (T := 145) (by kernel_rfl)
  exact run_as hd hn (fun _ => by kernel_rfl) K v _ w
theorem as_Stored_nil (w : World) : (Instr.typeAssert .nilIface 45 145 true).run Tryz.prog w = .ok (.tuple #[.agg #[.int .i64 0, .int .i64 0], .bool false]) w := by
  obtain ⟨d, hd, hn⟩ := und_of (P := Tryz.prog) (T := 145) (by kernel_rfl)
  exact run_as_nil hd hn (fun _ => by kernel_rfl) _ w
theorem as_Unpin (K : TypeId) (v : Value) (w : World) : (Instr.typeAssert (.iface K v) 45 49 true).run Tryz.prog w = .ok (if K = 49 then .tuple #[v, .bool true] else .tuple #[.agg #[.int .i64 0, .int .i64 0], .bool false]) w := by
  obtain ⟨d, hd, hn⟩ := und_of (P := Tryz.prog) (T := 49) (by kernel_rfl)
  exact run_as hd hn (fun _ => by kernel_rfl) K v _ w
theorem as_Unpin_nil (w : World) : (Instr.typeAssert .nilIface 45 49 true).run Tryz.prog w = .ok (.tuple #[.agg #[.int .i64 0, .int .i64 0], .bool false]) w := by
  obtain ⟨d, hd, hn⟩ := und_of (P := Tryz.prog) (T := 49) (by kernel_rfl)
  exact run_as_nil hd hn (fun _ => by kernel_rfl) _ w
theorem as_Unpinned (K : TypeId) (v : Value) (w : World) : (Instr.typeAssert (.iface K v) 45 146 true).run Tryz.prog w = .ok (if K = 146 then .tuple #[v, .bool true] else .tuple #[.agg #[.int .i64 0, .int .i64 0, .int .i64 0], .bool false]) w := by
  obtain ⟨d, hd, hn⟩ := und_of (P := Tryz.prog) (T := 146) (by kernel_rfl)
  exact run_as hd hn (fun _ => by kernel_rfl) K v _ w
theorem as_Unpinned_nil (w : World) : (Instr.typeAssert .nilIface 45 146 true).run Tryz.prog w = .ok (.tuple #[.agg #[.int .i64 0, .int .i64 0, .int .i64 0], .bool false]) w := by
  obtain ⟨d, hd, hn⟩ := und_of (P := Tryz.prog) (T := 146) (by kernel_rfl)
  exact run_as_nil hd hn (fun _ => by kernel_rfl) _ w
attribute [go_sem] as_Trigger as_Trigger_nil as_Pin as_Pin_nil as_Pinned as_Pinned_nil as_Gone as_Gone_nil as_Collect as_Collect_nil as_Chunk as_Chunk_nil as_Manifest as_Manifest_nil as_Stored as_Stored_nil as_Unpin as_Unpin_nil as_Unpinned as_Unpinned_nil
end Go.Proofs.YtkjggglmemafgaaGreat
