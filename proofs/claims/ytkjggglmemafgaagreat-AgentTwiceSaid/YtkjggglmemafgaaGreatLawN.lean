import Derived.Test.YtkjggglmemafgaaGreatLawM
import Derived.Test.YtkjggglmemafgaaGreatMsgT
namespace Go.Proofs.YtkjggglmemafgaaGreat
open Go Go.RowKit
set_option linter.unusedVariables false
set_option linter.unusedSimpArgs false
set_option maxRecDepth 20000

section
variable {w0 w : World} {R : List Asn}
/-- the calls that are messages, or none -/
theorem law_message_lit (h : St w0 R w) (k t n : Int) (s : ByteArray) (hk : k = 1 ∨ k = 2 ∨ k = 3 ∨ k = 4 ∨ k = 5 ∨ k = 6 ∨ k = 7) : Calls Tryz.prog 15 #[.agg #[.int .i64 k, .int .i64 t, .int .i64 n, .string s]] w (RetS' w0 R (OpM.msg ⟨k, t, n, s⟩).val) := by
  rcases hk with rfl | rfl | rfl | rfl | rfl | rfl | rfl
  · have h2 := h.alloc [.int .i64 1, .int .i64 t, .int .i64 n, .string s] 35 rfl
    have e : (OpM.msg ⟨1, t, n, s⟩) = .none := by simp [OpM.msg]
    rw [e]
    clear e
    go_enter Tryz.func15, Tryz.ntmps15
    go_wp2
    go_ret
    exact ⟨rfl, h2.drop⟩
  · have h2 := h.alloc [.int .i64 2, .int .i64 t, .int .i64 n, .string s] 35 rfl
    have e : (OpM.msg ⟨2, t, n, s⟩) = .none := by simp [OpM.msg]
    rw [e]
    clear e
    go_enter Tryz.func15, Tryz.ntmps15
    go_wp2
    go_ret
    exact ⟨rfl, h2.drop⟩
  · have h2 := h.alloc [.int .i64 3, .int .i64 t, .int .i64 n, .string s] 35 rfl
    have e : (OpM.msg ⟨3, t, n, s⟩) = .none := by simp [OpM.msg]
    rw [e]
    clear e
    go_enter Tryz.func15, Tryz.ntmps15
    go_wp2
    go_ret
    exact ⟨rfl, h2.drop⟩
  · have h2 := h.alloc [.int .i64 4, .int .i64 t, .int .i64 n, .string s] 35 rfl
    have e : (OpM.msg ⟨4, t, n, s⟩) = .none := by simp [OpM.msg]
    rw [e]
    clear e
    go_enter Tryz.func15, Tryz.ntmps15
    go_wp2
    go_ret
    exact ⟨rfl, h2.drop⟩
  · have h2 := h.alloc [.int .i64 5, .int .i64 t, .int .i64 n, .string s] 35 rfl
    have e : (OpM.msg ⟨5, t, n, s⟩) = .pin t n := by simp [OpM.msg]
    rw [e]
    clear e
    go_enter Tryz.func15, Tryz.ntmps15
    go_wp2
    go_ret
    exact ⟨rfl, h2.drop⟩
  · have h2 := h.alloc [.int .i64 6, .int .i64 t, .int .i64 n, .string s] 35 rfl
    have e : (OpM.msg ⟨6, t, n, s⟩) = .collect t n := by simp [OpM.msg]
    rw [e]
    clear e
    go_enter Tryz.func15, Tryz.ntmps15
    go_wp2
    go_ret
    exact ⟨rfl, h2.drop⟩
  · have h2 := h.alloc [.int .i64 7, .int .i64 t, .int .i64 n, .string s] 35 rfl
    have e : (OpM.msg ⟨7, t, n, s⟩) = .unpin t n := by simp [OpM.msg]
    rw [e]
    clear e
    go_enter Tryz.func15, Tryz.ntmps15
    go_wp2
    go_ret
    exact ⟨rfl, h2.drop⟩
set_option maxHeartbeats 1000000 in
theorem law_message_make (h : St w0 R w) (k t n : Int) (s : ByteArray) (n1 : k ≠ 1) (n2 : k ≠ 2) (n3 : k ≠ 3) (n4 : k ≠ 4) (h5 : k ≠ 5) (h6 : k ≠ 6) (h7 : k ≠ 7) : Calls Tryz.prog 15 #[.agg #[.int .i64 k, .int .i64 t, .int .i64 n, .string s]] w (RetS' w0 R (makeM k t n).val) := by
  have h2 := h.alloc [.int .i64 k, .int .i64 t, .int .i64 n, .string s] 35 rfl
  have b0 := h2.blk.get (i := 0) rfl
  have b1 := h2.blk.get (i := 1) rfl
  have b2 := h2.blk.get (i := 2) rfl
  have e1 : (k == 1) = false := by simpa using n1
  have e2 : (k == 2) = false := by simpa using n2
  have e3 : (k == 3) = false := by simpa using n3
  have e4 : (k == 4) = false := by simpa using n4
  have e5 : (k == 5) = false := by simpa using h5
  have e6 : (k == 6) = false := by simpa using h6
  have e7 : (k == 7) = false := by simpa using h7
  have H1 := law_make h2.drop k t n n1 n2 n3 n4 h5 h6 h7
  clear h5 h6 h7 n1 n2 n3 n4
  go_enter Tryz.func15, Tryz.ntmps15
  go_wp2_with fail
  refine H1.mono ?_
  rintro e w1 ⟨rfl, h3⟩
  go_wp2
  go_ret
  exact ⟨rfl, h3⟩
theorem law_message (h : St w0 R w) (o : OpM) : Calls Tryz.prog 15 #[o.V] w (RetS' w0 R o.msg.val) := by
  obtain ⟨k, t, n, s⟩ := o
  by_cases hk : k = 1 ∨ k = 2 ∨ k = 3 ∨ k = 4 ∨ k = 5 ∨ k = 6 ∨ k = 7
  · exact law_message_lit h k t n s hk
  · have e : (OpM.msg ⟨k, t, n, s⟩) = makeM k t n := by
      unfold OpM.msg
      rw [if_neg (by simp; omega), if_neg (by simp; omega), if_neg (by simp; omega), if_neg (by simp; omega)]
    rw [e]
    exact law_message_make h k t n s (by omega) (by omega) (by omega) (by omega) (by omega) (by omega) (by omega)
theorem law_config (h : St w0 R w) : Calls Tryz.prog 11 #[] w (RetS' w0 R (.agg #[.int .i64 3, .int .i64 4, .int .i64 3, .int .i64 4, .int .u64 9, .int .i64 2, .int .i64 1])) := by
  have h2 := h.alloc [.int .i64 3, .int .i64 4, .int .i64 3, .int .i64 4, .int .u64 9, .int .i64 2, .int .i64 1] 32 rfl
  go_enter Tryz.func11, Tryz.ntmps11
  go_wp2
  exact bodyPost_ret (v := .agg #[.int .i64 3, .int .i64 4, .int .i64 3, .int .i64 4, .int .u64 9, .int .i64 2, .int .i64 1]) (by simp [results, Tryz.results11, go_sem]) rfl ⟨rfl, h2.drop⟩
/-! ### two lists of numbers -/
theorem same_ints (F : Nat → Prop) (w : World) (u v : Value) (a b : List Int) (hu : IntsR F w u a) (hv' : IntsR F w v b) (ha : (a.length : Int) ≤ 9223372036854775807) : Calls Tryz.prog 28 #[u, v] w (RetB (decide (a = b)) w) := by
  obtain ⟨ua, uc, rfl, -, -⟩ := Rs.shape hu
  obtain ⟨va, vc, rfl, -, -⟩ := Rs.shape hv'
  by_cases hl : a.length = b.length
  · go_enter Tryz.func28, Tryz.ntmps28
    have hb : (b.length : Int) ≤ 9223372036854775807 := by omega
    go_wp2
    go_loopw [5] (fun i wr => ∃ k : Nat, k ≤ a.length ∧ i = .int .i64 k ∧ (∀ x ∈ List.range k, a[x]? = b[x]?) ∧ Fr (fun _ => False) w wr) (fun i _ => a.length - (intOf i).toNat)
    case atStart => exact ⟨0, Nat.zero_le _, rfl, by simp, Fr.refl _ _⟩
    case round =>
      obtain ⟨k, hk, rfl, hx, hF⟩ := hrel
      have hk0 : (0 : Int) ≤ (k : Int) := by omega
      by_cases hlt : k < a.length
      · have hlt' : (k : Int) < (a.length : Int) := by omega
        have hlt2 : (k : Int) < (b.length : Int) := by omega
        obtain ⟨x, hx1⟩ : ∃ y, a[k]? = some y := ⟨a[k], List.getElem?_eq_getElem hlt⟩
        obtain ⟨y, hy1⟩ : ∃ y, b[k]? = some y := ⟨b[k]'(by omega), List.getElem?_eq_getElem _⟩
        obtain ⟨g, off, c, hv, -⟩ := hu.form (by simp; omega)
        cases hv
        obtain ⟨g2, off2, c2, hv, -⟩ := hv'.form (by simp; omega)
        cases hv
        have c1 := hF.cell_some (hu.cells rfl k (.int .i64 x) (by rw [List.getElem?_map, hx1]; rfl)) (fun h => h)
        have c2 := hF.cell_some (hv'.cells rfl k (.int .i64 y) (by rw [List.getElem?_map, hy1]; rfl)) (fun h => h)
        have HX : Hid _ := hx
        clear hx
        by_cases hxy : x = y
        · have e1 : ((x : Int) == y) = true := by simp [hxy]
          have HE : Hid _ := hxy
          have HX1 : Hid _ := hx1
          have HY1 : Hid _ := hy1
          clear hxy hx1 hy1
          go_wp2
          go_quiet (fail)
          go_wp2
          go_roundw
          case rel => exact ⟨k + 1, by omega, by go_num, fun z hz => by
            rw [List.range_succ, List.mem_append] at hz
            rcases hz with hz | hz
            · exact HX.out z hz
            · simp at hz; subst hz; rw [HX1.out, HY1.out, HE.out], hF.drewN nq⟩
          case measure => simp [intOf]; omega
        · have e : decide (a = b) = false := by
            simp; intro e; rw [e, hy1] at hx1; cases hx1; exact hxy rfl
          have HE : Hid _ := e
          have e1 : ((x : Int) == y) = false := by simp [hxy]
          clear hxy hx1 hy1 e
          go_wp2
          go_quiet (fail)
          go_wp2
          go_ret
          exact ⟨by rw [HE.out]; rfl, hF.drewN nq⟩
      · obtain rfl : k = a.length := by omega
        have hlt' : ¬ (a.length : Int) < (a.length : Int) := by omega
        have e : a = b := List.ext_getElem? fun i => by
          rcases Nat.lt_or_ge i a.length with hi | hi
          · exact hx i (List.mem_range.2 hi)
          · rw [List.getElem?_eq_none hi, List.getElem?_eq_none (by omega)]
        have HE : Hid _ := e
        clear hx e
        go_wp2
        go_ret
        exact ⟨by rw [decide_eq_true HE.out]; rfl, hF⟩
  · have e : decide (a = b) = false := by simp; intro e; exact hl (by rw [e])
    rw [e]
    have e1 : ((a.length : Int) == (b.length : Int)) = false := by simp; omega
    clear hl e
    go_enter Tryz.func28, Tryz.ntmps28
    go_wp2
    go_ret
    exact ⟨rfl, Fr.refl _ _⟩
end
end Go.Proofs.YtkjggglmemafgaaGreat
