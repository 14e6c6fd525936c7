import Derived.Test.YtkjggglmemafgaaGreatLawM
import Derived.Test.YtkjggglmemafgaaGreatMsgT
namespace Go.Proofs.YtkjggglmemafgaaGreat
open Go Go.RowKit
set_option linter.unusedVariables false
set_option linter.unusedSimpArgs false
set_option maxRecDepth 20000

section
variable {w0 w : World} {R : List Asn}
theorem law_part (h : St w0 R w) (a t j n : Int) (ca : Option Addr) (cl cc : Nat) (b : Bool) : Calls Tryz.prog 79 #[.agg #[.int .i64 a, .int .i64 t, .int .i64 j, .int .i64 n, .slice ca cl cc, .bool b]] w (RetS' w0 R (.agg #[.int .i64 a, .int .i64 t, .int .i64 j, .int .i64 n, .slice ca cl cc, .bool b])) := by
  have h2 := h.alloc [.int .i64 a, .int .i64 t, .int .i64 j, .int .i64 n, .slice ca cl cc, .bool b] 136 rfl
  go_enter Tryz.func79, Tryz.ntmps79
  go_wp2
  exact bodyPost_ret (v := .agg #[.int .i64 a, .int .i64 t, .int .i64 j, .int .i64 n, .slice ca cl cc, .bool b]) (by simp [results, Tryz.results79, go_sem]) rfl ⟨rfl, h.fr (by repeat first | exact Fr.refl _ _ | refine Fr.alloc ?_ _)⟩
theorem law_like_pinned (h : St w0 R w) (a t j n : Int) (ca : Option Addr) (cl cc : Nat) (b : Bool) : Calls Tryz.prog 31 #[.iface 136 (.agg #[.int .i64 a, .int .i64 t, .int .i64 j, .int .i64 n, .slice ca cl cc, .bool b])] w (RetS' w0 R (.agg #[.int .i64 3, .int .i64 0, .int .i64 0, .int .i64 0, .int .i64 0, .int .i64 0, .int .i64 0, .int .i64 a, .int .i64 t, .int .i64 j, .int .i64 n, .slice ca cl cc, .bool b, .slice none 0 0, .slice none 0 0])) := by
  have h2 := (h.alloc [.int .i64 0, .int .i64 0, .int .i64 0, .int .i64 0, .int .i64 0, .int .i64 0, .int .i64 0, .int .i64 0, .int .i64 0, .int .i64 0, .int .i64 0, .slice none 0 0, .bool false, .slice none 0 0, .slice none 0 0] 84 rfl).alloc [.int .i64 a, .int .i64 t, .int .i64 j, .int .i64 n, .slice ca cl cc, .bool b] 136 (B := w.heap.size + 1)
  have H1 := law_part h2 a t j n ca cl cc b
  go_enter Tryz.func31, Tryz.ntmps31
  go_wp2_with fail
  refine H1.mono ?_
  rintro e w1 ⟨rfl, h3⟩
  have bz := (h3.at 1).blk
  have k0 := bz.get (i := 0) rfl
  have z0 := bz.frozen 0
  have k1 := bz.get (i := 1) rfl
  have z1 := bz.frozen 1
  have k2 := bz.get (i := 2) rfl
  have z2 := bz.frozen 2
  have k3 := bz.get (i := 3) rfl
  have z3 := bz.frozen 3
  have k4 := bz.get (i := 4) rfl
  have z4 := bz.frozen 4
  have k5 := bz.get (i := 5) rfl
  have z5 := bz.frozen 5
  have k6 := bz.get (i := 6) rfl
  have z6 := bz.frozen 6
  have k7 := bz.get (i := 7) rfl
  have z7 := bz.frozen 7
  have k8 := bz.get (i := 8) rfl
  have z8 := bz.frozen 8
  have k9 := bz.get (i := 9) rfl
  have z9 := bz.frozen 9
  have k10 := bz.get (i := 10) rfl
  have z10 := bz.frozen 10
  have k11 := bz.get (i := 11) rfl
  have z11 := bz.frozen 11
  have k12 := bz.get (i := 12) rfl
  have z12 := bz.frozen 12
  have k13 := bz.get (i := 13) rfl
  have z13 := bz.frozen 13
  have k14 := bz.get (i := 14) rfl
  have z14 := bz.frozen 14
  clear bz
  have h4 := (((((((((((((((h3.at 1).set 0 (.int .i64 3)).set 1 (.int .i64 0)).set 2 (.int .i64 0)).set 3 (.int .i64 0)).set 4 (.int .i64 0)).set 5 (.int .i64 0)).set 6 (.int .i64 0)).set 7 (.int .i64 a)).set 8 (.int .i64 t)).set 9 (.int .i64 j)).set 10 (.int .i64 n)).set 11 (.slice ca cl cc)).set 12 (.bool b)).set 13 (.slice none 0 0)).set 14 (.slice none 0 0)
  have e0 := h4.blk.get (i := 0) rfl
  have e1 := h4.blk.get (i := 1) rfl
  have e2 := h4.blk.get (i := 2) rfl
  have e3 := h4.blk.get (i := 3) rfl
  have e4 := h4.blk.get (i := 4) rfl
  have e5 := h4.blk.get (i := 5) rfl
  have e6 := h4.blk.get (i := 6) rfl
  have e7 := h4.blk.get (i := 7) rfl
  have e8 := h4.blk.get (i := 8) rfl
  have e9 := h4.blk.get (i := 9) rfl
  have e10 := h4.blk.get (i := 10) rfl
  have e11 := h4.blk.get (i := 11) rfl
  have e12 := h4.blk.get (i := 12) rfl
  have e13 := h4.blk.get (i := 13) rfl
  have e14 := h4.blk.get (i := 14) rfl
  go_wp2
  exact bodyPost_ret (v := .agg #[.int .i64 3, .int .i64 0, .int .i64 0, .int .i64 0, .int .i64 0, .int .i64 0, .int .i64 0, .int .i64 a, .int .i64 t, .int .i64 j, .int .i64 n, .slice ca cl cc, .bool b, .slice none 0 0, .slice none 0 0]) (by simp [results, Tryz.results31, go_sem, *]) rfl ⟨rfl, (h4.at 1).drop.drop⟩
theorem law_like_chunk (h : St w0 R w) (a t j i n : Int) (ca : Option Addr) (cl cc : Nat) : Calls Tryz.prog 31 #[.iface 141 (.agg #[.int .i64 a, .int .i64 t, .int .i64 j, .int .i64 i, .int .i64 n, .slice ca cl cc])] w (RetS' w0 R (.agg #[.int .i64 6, .int .i64 a, .int .i64 t, .int .i64 j, .int .i64 0, .int .i64 i, .int .i64 n, .int .i64 0, .int .i64 0, .int .i64 0, .int .i64 0, .slice none 0 0, .bool false, .slice none 0 0, .slice ca cl cc])) := by
  go_enter Tryz.func31, Tryz.ntmps31
  go_wp2_with fail
  exact bodyPost_ret (v := .agg #[.int .i64 6, .int .i64 a, .int .i64 t, .int .i64 j, .int .i64 0, .int .i64 i, .int .i64 n, .int .i64 0, .int .i64 0, .int .i64 0, .int .i64 0, .slice none 0 0, .bool false, .slice none 0 0, .slice ca cl cc]) (by simp [results, Tryz.results31, go_sem]) rfl ⟨rfl, h.fr (by repeat first | exact Fr.refl _ _ | refine Fr.alloc ?_ _)⟩
end
end Go.Proofs.YtkjggglmemafgaaGreat
