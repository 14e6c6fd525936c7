import Derived.Test.YtkjggglmemafgaaGreatAwake
import Derived.Test.YtkjggglmemafgaaGreatAgentZ
namespace Go.Proofs.YtkjggglmemafgaaGreat
open Go Go.RowKit
set_option linter.unusedVariables false
set_option linter.unusedSimpArgs false
set_option maxRecDepth 1000000

section
variable {w0 w : World} {R : List Asn}
theorem law_nil_long (h : St w0 R w) (k t n : Int) (s : ByteArray) (hs : ¬ s.size ≤ 100) : Calls Tryz.prog 6 #[.agg #[.int .i64 k, .int .i64 t, .int .i64 n, .string s]] w (AwPost w0 R) := by
  have h2 := h.alloc [.int .i64 k, .int .i64 t, .int .i64 n, .string s] 35 rfl
  have hs1 : (100 : Int) < (s.size : Int) := by omega
  go_enter Tryz.func6, Tryz.ntmps6
  go_wp2_with fail
  refine (law_awake h2.drop).mono ?_
  rintro e w1 ⟨rfl, h3⟩
  go_wp2
  go_ret
  exact ⟨rfl, h3⟩
set_option maxHeartbeats 2000000 in
theorem law_nil (h : St w0 R w) (k t n : Int) (s : ByteArray) : Calls Tryz.prog 6 #[.agg #[.int .i64 k, .int .i64 t, .int .i64 n, .string s]] w (AwPost w0 R) := by
  by_cases hs : s.size ≤ 100
  rotate_left
  · exact law_nil_long h k t n s hs
  have h2 := h.alloc [.int .i64 k, .int .i64 t, .int .i64 n, .string s] 35 rfl
  have hs1 : ¬ (100 : Int) < (s.size : Int) := by omega
  have b1 := h2.blk.get (i := 1) rfl
  have b3 := h2.blk.get (i := 3) rfl
  clear h hs
  go_enter Tryz.func6, Tryz.ntmps6
  go_wp2_with fail
  refine (nil_span h2 t s).mono ?_
  rintro e w1 ⟨rfl, h3⟩
  have h4 := h3.alloc [.int .i64 0, .int .i64 0, .string ByteArray.empty] 37 rfl
  have b1 := (h4.at 1).blk.get (i := 1) rfl
  have b2 := (h4.at 1).blk.get (i := 2) rfl
  clear h2 h3
  go_wp2_with fail
  refine (nil_trigger h4 t n).mono ?_
  rintro e w2 ⟨rfl, h5⟩
  have h6 := h5.alloc [.int .i64 0, .int .i64 0, .int .i64 0] 58 rfl
  have b0 := (h6.at 2).blk.get (i := 0) rfl
  have b1 := (h6.at 2).blk.get (i := 1) rfl
  have b2 := (h6.at 2).blk.get (i := 2) rfl
  have b3 := (h6.at 2).blk.get (i := 3) rfl
  clear h4 h5
  go_wp2_with fail
  refine (law_message h6 ⟨k, t, n, s⟩).mono ?_
  rintro e w3 ⟨rfl, h7⟩
  generalize (OpM.msg ⟨k, t, n, s⟩).val = mv
  clear h6 b0 b1 b2 b3
  go_wp2_with fail
  refine (nil_hear h7 mv).mono ?_
  rintro e w4 ⟨rfl, h8⟩
  clear h7
  go_wp2_with fail
  refine (law_awake h8).mono ?_
  rintro e w5 ⟨rfl, h9⟩
  clear h8
  have b1 := (h9.at 2).blk.get (i := 1) rfl
  have b2 := (h9.at 2).blk.get (i := 2) rfl
  go_wp2_with fail
  refine (nil_crumb h9 t n).mono ?_
  rintro e w6 ⟨rfl, h10⟩
  clear h9 b1 b2
  go_wp2_with fail
  refine (nil_tick h10).mono ?_
  rintro e w7 ⟨rfl, h11⟩
  go_wp2_with fail
  refine (nil_spans h11 1).mono ?_
  rintro e w8 ⟨rfl, h12⟩
  go_wp2_with fail
  refine (nil_crumbs h12 1).mono ?_
  rintro e w9 ⟨rfl, h13⟩
  go_wp2_with fail
  refine (nil_job h13 1).mono ?_
  rintro e w10 ⟨rfl, h14⟩
  go_wp2_with fail
  refine (nil_lost h14 1).mono ?_
  rintro e w11 ⟨rfl, h15⟩
  go_wp2_with fail
  refine (nil_used h15).mono ?_
  rintro e w12 ⟨rfl, h16⟩
  go_wp2_with fail
  refine (nil_evicted h16).mono ?_
  rintro e w13 ⟨rfl, h17⟩
  go_wp2
  go_ret
  exact ⟨rfl, h17.drop.drop.drop⟩
end
end Go.Proofs.YtkjggglmemafgaaGreat
