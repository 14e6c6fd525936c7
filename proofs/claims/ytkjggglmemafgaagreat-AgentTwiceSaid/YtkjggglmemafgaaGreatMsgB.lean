import Derived.Test.YtkjggglmemafgaaGreatMsgA
import Derived.Stop.Asserts
import Derived.Deep.RegionWith
namespace Go.Proofs.YtkjggglmemafgaaGreat
open Go Go.RowKit
set_option linter.unusedVariables false
set_option linter.unusedSimpArgs false
set_option maxRecDepth 20000

theorem drop_consM {α : Type} {l : List α} {k : Nat} {x : α} (h : l[k]? = some x) : l.drop k = x :: l.drop (k + 1) := by
  obtain ⟨hk, rfl⟩ := List.getElem?_eq_some_iff.1 h
  exact List.drop_eq_getElem_cons hk
theorem msg_agents (F : Nat → Prop) (w : World) (v : Value) (l : List Int) (h : IntsR F w v l) (hl : (l.length : Int) ≤ 1000000) :
    Calls Tryz.prog 92 #[v] w fun e w' => e = .returned (.bool (agentsS l)) ∧ w = w' := by
  obtain ⟨va, vc, rfl, hc, -⟩ := Rs.shape h
  go_enter Tryz.func92, Tryz.ntmps92
  go_wp2
  go_loopw [3, 8] (fun la i wr => ∃ (k : Nat) (x : Int), k ≤ l.length ∧ i = .int .i64 k ∧ la = .int .i64 x ∧ agentsS l = risingS x (l.drop k) ∧ wr = w) (fun _ i _ => l.length - (intOf i).toNat)
  case atStart => exact ⟨0, -1, Nat.zero_le _, rfl, rfl, rfl, rfl⟩
  case round =>
    obtain ⟨k, x, hk, rfl, rfl, hx, rfl⟩ := hrel
    have hk0 : (0 : Int) ≤ (k : Int) := by omega
    have HX : Hid _ := hx
    clear hx
    by_cases hlt : k < l.length
    · have hlt' : (k : Int) < (l.length : Int) := by omega
      obtain ⟨a, ha⟩ : ∃ a, l[k]? = some a := ⟨l[k], List.getElem?_eq_getElem hlt⟩
      obtain ⟨g, off, c, hv, -⟩ := Rs.form h (by simp; omega)
      cases hv
      have hcell := Rs.cells h rfl k (.int .i64 a) (by simp [ha])
      have hd := drop_consM ha
      have HD : Hid _ := hd
      clear hd ha
      by_cases h1 : a ≤ x
      · go_wp2
        go_ret
        exact ⟨by rw [HX.out, HD.out, risingS]; simp [Int.not_lt.2 h1], by first | rfl | trivial⟩
      · by_cases h2 : 4 ≤ a
        · go_wp2
          go_ret
          exact ⟨by rw [HX.out, HD.out, risingS]; simp [Int.not_lt.2 h2], by first | rfl | trivial⟩
        · go_wp2
          go_roundw
          case rel => exact ⟨k + 1, a, by omega, by go_num, rfl, by rw [HX.out, HD.out, risingS]; simp [Int.not_le.1 h1, Int.not_le.1 h2], by first | rfl | trivial⟩
          case measure => simp [intOf]; omega
    · have hlt' : ¬ (k : Int) < (l.length : Int) := by omega
      go_wp2
      go_ret
      exact ⟨by rw [HX.out, List.drop_eq_nil_of_le (by omega)]; rfl, by first | rfl | trivial⟩

def AgPost (w : World) (r : Int × Bool) (e : Ending) (w' : World) : Prop := e = .returned (.tuple #[.int .i64 r.1, .bool r.2]) ∧ Fr (fun _ => False) w w'
theorem und_sender : Tryz.prog.underlying 202 = some (.interface (match Tryz.prog.underlying 202 with | some (.interface ms) => ms | _ => #[])) := by kernel_rfl
theorem sn_Trigger (v : Value) (w : World) : (Instr.typeAssert (.iface 58 v) 45 202 true).run Tryz.prog w = .ok (.tuple #[.iface 58 v, .bool true]) w := by kernel_rfl
theorem sn_Pinned (v : Value) (w : World) : (Instr.typeAssert (.iface 136 v) 45 202 true).run Tryz.prog w = .ok (.tuple #[.iface 136 v, .bool true]) w := by kernel_rfl
theorem sn_Gone (v : Value) (w : World) : (Instr.typeAssert (.iface 139 v) 45 202 true).run Tryz.prog w = .ok (.tuple #[.iface 139 v, .bool true]) w := by kernel_rfl
theorem sn_Chunk (v : Value) (w : World) : (Instr.typeAssert (.iface 141 v) 45 202 true).run Tryz.prog w = .ok (.tuple #[.iface 141 v, .bool true]) w := by kernel_rfl
theorem sn_Unpinned (v : Value) (w : World) : (Instr.typeAssert (.iface 146 v) 45 202 true).run Tryz.prog w = .ok (.tuple #[.iface 146 v, .bool true]) w := by kernel_rfl
theorem sn_Pin (v : Value) (w : World) : (Instr.typeAssert (.iface 48 v) 45 202 true).run Tryz.prog w = .ok (.tuple #[.nilIface, .bool false]) w := run_typeAssert_lacksB und_sender (by kernel_rfl) (by kernel_rfl) v _ w
theorem sn_Collect (v : Value) (w : World) : (Instr.typeAssert (.iface 99 v) 45 202 true).run Tryz.prog w = .ok (.tuple #[.nilIface, .bool false]) w := run_typeAssert_lacksB und_sender (by kernel_rfl) (by kernel_rfl) v _ w
theorem sn_Manifest (v : Value) (w : World) : (Instr.typeAssert (.iface 144 v) 45 202 true).run Tryz.prog w = .ok (.tuple #[.nilIface, .bool false]) w := run_typeAssert_lacksB und_sender (by kernel_rfl) (by kernel_rfl) v _ w
theorem sn_Stored (v : Value) (w : World) : (Instr.typeAssert (.iface 145 v) 45 202 true).run Tryz.prog w = .ok (.tuple #[.nilIface, .bool false]) w := run_typeAssert_lacksB und_sender (by kernel_rfl) (by kernel_rfl) v _ w
theorem sn_Unpin (v : Value) (w : World) : (Instr.typeAssert (.iface 49 v) 45 202 true).run Tryz.prog w = .ok (.tuple #[.nilIface, .bool false]) w := run_typeAssert_lacksB und_sender (by kernel_rfl) (by kernel_rfl) v _ w
theorem sn_nil (w : World) : (Instr.typeAssert .nilIface 45 202 true).run Tryz.prog w = .ok (.tuple #[.nilIface, .bool false]) w := by kernel_rfl
attribute [go_sem] sn_Trigger sn_Pinned sn_Gone sn_Chunk sn_Unpinned sn_Pin sn_Collect sn_Manifest sn_Stored sn_Unpin sn_nil
theorem mth_Trigger (n : Nat) (v : Value) (w : World) : (method (n + 1) 58 v "spoor/msg.from").run Tryz.prog w = .ok (192, v) w := by kernel_rfl
theorem from_Trigger (a t c : Int)  (w : World) : Calls Tryz.prog 192 #[.agg #[.int .i64 a, .int .i64 t, .int .i64 c]] w (fun e w' => e = .returned (.int .i64 a) ∧ Fr (fun _ => False) w w') := by
  go_enter Tryz.func192, Tryz.ntmps192
  go_wp2
  go_ret
  exact ⟨rfl, by repeat first | exact Fr.refl _ _ | refine Fr.drewN ?_ _ | refine Fr.alloc ?_ _⟩
theorem mth_Gone (n : Nat) (v : Value) (w : World) : (method (n + 1) 139 v "spoor/msg.from").run Tryz.prog w = .ok (197, v) w := by kernel_rfl
theorem from_Gone (a t c : Int)  (w : World) : Calls Tryz.prog 197 #[.agg #[.int .i64 a, .int .i64 t, .int .i64 c]] w (fun e w' => e = .returned (.int .i64 a) ∧ Fr (fun _ => False) w w') := by
  go_enter Tryz.func197, Tryz.ntmps197
  go_wp2
  go_ret
  exact ⟨rfl, by repeat first | exact Fr.refl _ _ | refine Fr.drewN ?_ _ | refine Fr.alloc ?_ _⟩
theorem mth_Unpinned (n : Nat) (v : Value) (w : World) : (method (n + 1) 146 v "spoor/msg.from").run Tryz.prog w = .ok (203, v) w := by kernel_rfl
theorem from_Unpinned (a t c : Int)  (w : World) : Calls Tryz.prog 203 #[.agg #[.int .i64 a, .int .i64 t, .int .i64 c]] w (fun e w' => e = .returned (.int .i64 a) ∧ Fr (fun _ => False) w w') := by
  go_enter Tryz.func203, Tryz.ntmps203
  go_wp2
  go_ret
  exact ⟨rfl, by repeat first | exact Fr.refl _ _ | refine Fr.drewN ?_ _ | refine Fr.alloc ?_ _⟩
theorem mth_Pinned (n : Nat) (v : Value) (w : World) : (method (n + 1) 136 v "spoor/msg.from").run Tryz.prog w = .ok (195, v) w := by kernel_rfl
theorem from_Pinned (a t j n : Int) (sa : Option Addr) (sl sc : Nat) (b : Bool) (w : World) : Calls Tryz.prog 195 #[.agg #[.int .i64 a, .int .i64 t, .int .i64 j, .int .i64 n, .slice sa sl sc, .bool b]] w (fun e w' => e = .returned (.int .i64 a) ∧ Fr (fun _ => False) w w') := by
  go_enter Tryz.func195, Tryz.ntmps195
  go_wp2
  go_ret
  exact ⟨rfl, by repeat first | exact Fr.refl _ _ | refine Fr.drewN ?_ _ | refine Fr.alloc ?_ _⟩
theorem mth_Chunk (n : Nat) (v : Value) (w : World) : (method (n + 1) 141 v "spoor/msg.from").run Tryz.prog w = .ok (199, v) w := by kernel_rfl
theorem from_Chunk (a t j i n : Int) (sa : Option Addr) (sl sc : Nat) (w : World) : Calls Tryz.prog 199 #[.agg #[.int .i64 a, .int .i64 t, .int .i64 j, .int .i64 i, .int .i64 n, .slice sa sl sc]] w (fun e w' => e = .returned (.int .i64 a) ∧ Fr (fun _ => False) w w') := by
  go_enter Tryz.func199, Tryz.ntmps199
  go_wp2
  go_ret
  exact ⟨rfl, by repeat first | exact Fr.refl _ _ | refine Fr.drewN ?_ _ | refine Fr.alloc ?_ _⟩
attribute [go_sem] mth_Trigger mth_Gone mth_Unpinned mth_Pinned mth_Chunk
theorem msg_agent (F : Nat → Prop) (w : World) (v : Value) (m : MsgM) (h : MsgR F w v m) : Calls Tryz.prog 91 #[v] w (AgPost w m.sender) := by
  have H1 := msg_of F w v _ h
  cases m
  case trigger a t c =>
    obtain rfl := h
    replace H1 : Calls _ _ _ _ (OfPost w (t, 0, true)) := H1
    go_enter Tryz.func91, Tryz.ntmps91
    go_wp2_with fail
    refine H1.mono ?_
    rintro e w1 ⟨rfl, hF⟩
    go_wp2_with fail
    refine (from_Trigger a t c w1).mono ?_
    rintro e w2 ⟨rfl, hF2⟩
    go_wp2
    go_ret2
    exact ⟨rfl, hF.trans hF2 (fun _ _ h => h)⟩
  case gone a t j =>
    obtain rfl := h
    replace H1 : Calls _ _ _ _ (OfPost w (t, j, true)) := H1
    go_enter Tryz.func91, Tryz.ntmps91
    go_wp2_with fail
    refine H1.mono ?_
    rintro e w1 ⟨rfl, hF⟩
    go_wp2_with fail
    refine (from_Gone a t j w1).mono ?_
    rintro e w2 ⟨rfl, hF2⟩
    go_wp2
    go_ret2
    exact ⟨rfl, hF.trans hF2 (fun _ _ h => h)⟩
  case unpinned a t j =>
    obtain rfl := h
    replace H1 : Calls _ _ _ _ (OfPost w (t, j, true)) := H1
    go_enter Tryz.func91, Tryz.ntmps91
    go_wp2_with fail
    refine H1.mono ?_
    rintro e w1 ⟨rfl, hF⟩
    go_wp2_with fail
    refine (from_Unpinned a t j w1).mono ?_
    rintro e w2 ⟨rfl, hF2⟩
    go_wp2
    go_ret2
    exact ⟨rfl, hF.trans hF2 (fun _ _ h => h)⟩
  case pin t j =>
    obtain rfl := h
    replace H1 : Calls _ _ _ _ (OfPost w (t, j, true)) := H1
    go_enter Tryz.func91, Tryz.ntmps91
    go_wp2_with fail
    refine H1.mono ?_
    rintro e w1 ⟨rfl, hF⟩
    go_wp2
    go_ret2
    exact ⟨rfl, hF⟩
  case collect t j =>
    obtain rfl := h
    replace H1 : Calls _ _ _ _ (OfPost w (t, j, true)) := H1
    go_enter Tryz.func91, Tryz.ntmps91
    go_wp2_with fail
    refine H1.mono ?_
    rintro e w1 ⟨rfl, hF⟩
    go_wp2
    go_ret2
    exact ⟨rfl, hF⟩
  case stored t j =>
    obtain rfl := h
    replace H1 : Calls _ _ _ _ (OfPost w (t, j, true)) := H1
    go_enter Tryz.func91, Tryz.ntmps91
    go_wp2_with fail
    refine H1.mono ?_
    rintro e w1 ⟨rfl, hF⟩
    go_wp2
    go_ret2
    exact ⟨rfl, hF⟩
  case unpin t j =>
    obtain rfl := h
    replace H1 : Calls _ _ _ _ (OfPost w (t, j, true)) := H1
    go_enter Tryz.func91, Tryz.ntmps91
    go_wp2_with fail
    refine H1.mono ?_
    rintro e w1 ⟨rfl, hF⟩
    go_wp2
    go_ret2
    exact ⟨rfl, hF⟩
  case none =>
    obtain rfl := h
    replace H1 : Calls _ _ _ _ (OfPost w (0, 0, false)) := H1
    go_enter Tryz.func91, Tryz.ntmps91
    go_wp2_with fail
    refine H1.mono ?_
    rintro e w1 ⟨rfl, hF⟩
    go_wp2
    go_ret2
    exact ⟨rfl, hF⟩
  case pinned p =>
    obtain ⟨cv, rfl, hr⟩ := h
    obtain ⟨ca, cc, rfl, -⟩ := Rs.shape hr
    replace H1 : Calls _ _ _ _ (OfPost w (p.trace, p.job, true)) := H1
    go_enter Tryz.func91, Tryz.ntmps91
    go_wp2_with fail
    refine H1.mono ?_
    rintro e w1 ⟨rfl, hF⟩
    go_wp2_with fail
    refine (from_Pinned _ _ _ _ _ _ _ _ w1).mono ?_
    rintro e w2 ⟨rfl, hF2⟩
    go_wp2
    go_ret2
    exact ⟨rfl, hF.trans hF2 (fun _ _ h => h)⟩
  case chunk a t j i n s =>
    obtain ⟨cv, rfl, hr⟩ := h
    obtain ⟨ca, cc, rfl, -⟩ := Rs.shape hr
    replace H1 : Calls _ _ _ _ (OfPost w (t, j, true)) := H1
    go_enter Tryz.func91, Tryz.ntmps91
    go_wp2_with fail
    refine H1.mono ?_
    rintro e w1 ⟨rfl, hF⟩
    go_wp2_with fail
    refine (from_Chunk _ _ _ _ _ _ _ _ w1).mono ?_
    rintro e w2 ⟨rfl, hF2⟩
    go_wp2
    go_ret2
    exact ⟨rfl, hF.trans hF2 (fun _ _ h => h)⟩
  case manifest t j c ps =>
    obtain ⟨cv, rfl, cvs, -, hr, -⟩ := h
    obtain ⟨ca, cc, rfl, -⟩ := Rs.shape hr
    replace H1 : Calls _ _ _ _ (OfPost w (t, j, true)) := H1
    go_enter Tryz.func91, Tryz.ntmps91
    go_wp2_with fail
    refine H1.mono ?_
    rintro e w1 ⟨rfl, hF⟩
    go_wp2
    go_ret2
    exact ⟨rfl, hF⟩
end Go.Proofs.YtkjggglmemafgaaGreat
