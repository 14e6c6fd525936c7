import Derived.Test.YtkjggglmemafgaaGreatAgentB
import Derived.Deep.RegionHeld3
namespace Go.Proofs.YtkjggglmemafgaaGreat
open Go Go.RowKit
set_option linter.unusedVariables false
set_option linter.unusedSimpArgs false
set_option maxRecDepth 20000

section
variable {w0 w : World} {R : List Asn} {a : Nat} {m : AgentM}
def AgentM.unpin (m : AgentM) (t j : Int) : AgentM :=
  if m.l.job t = j then { m with done := setF m.done t (max (m.done t) j), l := m.l.fin t, k := m.k.forget t, c := m.c.drop t } else { m with done := setF m.done t (max (m.done t) j) }
set_option maxHeartbeats 1000000 in
theorem agent_unpin (h : St w0 (agentA a m :: R) w) (hok : AgentOk m) (t j : Int) : Calls Tryz.prog 51 #[.pointer (some ⟨a,0,none⟩), .agg #[.int .i64 t, .int .i64 j]] w (MsgsS w0 (agentA a (m.unpin t j) :: R) [.unpinned m.id t j]) := by
  obtain ⟨x, hE, h1⟩ := agent_open h
  have h2 := h1.alloc [.int .i64 t, .int .i64 j] 49 rfl
  have c5 := (h2.at 1).blk.get (i := 5) rfl
  have im := (h2.at 7).im
  have b0 := h2.blk.get (i := 0) rfl
  have b1 := h2.blk.get (i := 1) rfl
  obtain ⟨W, hW⟩ : ∃ W, W = w.alloc (.cells #[.int .i64 t, .int .i64 j] 49) := ⟨_, rfl⟩
  rw [← hW] at h2 c5 im b0 b1
  have HW : Hid _ := hW
  have hdn : get x.Ld t 0 = m.done t := hE.done t
  have HD : Hid _ := hdn
  clear hW hdn
  go_enter Tryz.func51, Tryz.ntmps51
  go_wp2
  rw [← HW.out]
  go_region
  have h3 := ((h2.at 7).mput t (.int .i64 (max (get x.Ld t 0) j))).drew
  rw [show put (mv (Value.int .i64) x.Ld) t (.int .i64 (max (get x.Ld t 0) j)) = mv (Value.int .i64) (put x.Ld t (max (get x.Ld t 0) j)) from put_mv _ _ _ _] at h3
  have h4 : St w0 (blkA w.heap.size 49 [.int .i64 t, .int .i64 j] :: agentL a { m with done := setF m.done t (max (m.done t) j) } { x with Ld := put x.Ld t (max (get x.Ld t 0) j) } ++ R) _ := h3.back 7
  have hE' : AgE { m with done := setF m.done t (max (m.done t) j) } { x with Ld := put x.Ld t (max (get x.Ld t 0) j) } := ⟨hE.b, hE.n, hE.cap, fun k => by
    rw [get_put]; simp only [setF, HD.out]; split
    · rfl
    · exact hE.done k⟩
  clear h3 h2 c5 im b0 b1
  generalize (W.mput x.db t (.int .i64 (max (get x.Ld t 0) j))).drew = W1 at h4 ⊢
  have c0 := (h4.at 1).blk.get (i := 0) rfl
  have c1 := (h4.at 1).blk.get (i := 1) rfl
  have c2 := (h4.at 1).blk.get (i := 2) rfl
  have c3 := (h4.at 1).blk.get (i := 3) rfl
  have b0 := h4.blk.get (i := 0) rfl
  have b1 := h4.blk.get (i := 1) rfl
  have HJ := fun n => leaseS_job ((h4.drewN n).at 4) t
  by_cases hj : m.l.job t = j
  · have hj2 : ((m.l.job t : Int) == j) = true := by simp [hj]
    have HM : Hid (m.unpin t j = { m with done := setF m.done t (max (m.done t) j), l := m.l.fin t, k := m.k.forget t, c := m.c.drop t }) := (by rw [AgentM.unpin, if_pos hj] : m.unpin t j = _)
    clear hj
    go_wp2
    go_quiet ((go_at_call 46; exact quiet_same (HJ _)))
    have h5 := h4.drewN nq
    clear c0 c1 c2 c3 b0 b1 HJ h4
    generalize W1.drewN nq = W2 at h5 ⊢
    have c3 := (h5.at 1).blk.get (i := 3) rfl
    have b0 := h5.blk.get (i := 0) rfl
    go_wp2
    go_still_tail 6, (by kernel_rfl)
    change wpList _ _ _ _ _ W2.drew
    have H1 := leaseS_end ((h5.drew).at 4) t
    clear c3 b0 h5
    go_wp2_with fail
    refine H1.mono ?_
    rintro e w3 ⟨rfl, h6⟩
    replace h6 := h6.back 4
    have c1 := (h6.at 1).blk.get (i := 1) rfl
    have b0 := h6.blk.get (i := 0) rfl
    go_wp2
    go_still_tail 6, (by kernel_rfl)
    change wpList _ _ _ _ _ w3.drew
    have H1 := keepS_forget ((h6.drew).at 2) t
    clear c1 b0 h6
    go_wp2_with fail
    refine H1.mono ?_
    rintro e w4 ⟨rfl, h7⟩
    replace h7 := h7.back 2
    have c2 := (h7.at 1).blk.get (i := 2) rfl
    have b0 := h7.blk.get (i := 0) rfl
    go_wp2
    go_still_tail 6, (by kernel_rfl)
    change wpList _ _ _ _ _ w4.drew
    have H1 := crumbS_drop ((h7.drew).at 3) t
    clear c2 b0 h7
    go_wp2_with fail
    refine H1.mono ?_
    rintro e w5 ⟨rfl, h8⟩
    replace h8 := h8.back 3
    have c0 := (h8.at 1).blk.get (i := 0) rfl
    have b0 := h8.blk.get (i := 0) rfl
    have b1 := h8.blk.get (i := 1) rfl
    go_wp2
    go_still_tail 10, (by kernel_rfl)
    change wpList _ _ _ _ _ w5.drew
    have h9 := h8.drew.alloc [.iface 146 (.agg #[.int .i64 m.id, .int .i64 t, .int .i64 j])] 45 rfl
    clear c0 b0 b1 h8
    generalize w5.drew = w6 at h9 ⊢
    go_wp2
    go_ret
    refine ⟨_, rfl, ?_⟩
    rw [HM.out]
    exact St.at 1 (agent_shut (R := _ :: R) (m := { m with done := setF m.done t (max (m.done t) j), l := m.l.fin t, k := m.k.forget t, c := m.c.drop t }) (x := { x with Ld := put x.Ld t (max (get x.Ld t 0) j) }) ⟨hE'.b, hE'.n, hE'.cap, hE'.done⟩ ((((h9.at 1).drop).msgsOne (q := .unpinned m.id t j) (fun _ _ => rfl)).back 7))
  · have hj2 : ((m.l.job t : Int) == j) = false := by simp [hj]
    have HM : Hid (m.unpin t j = { m with done := setF m.done t (max (m.done t) j) }) := (by rw [AgentM.unpin, if_neg hj] : m.unpin t j = _)
    clear hj
    go_wp2
    go_quiet ((go_at_call 46; exact quiet_same (HJ _)))
    have h5 := h4.drewN nq
    clear c0 c1 c2 c3 b0 b1 HJ h4
    generalize W1.drewN nq = W2 at h5 ⊢
    have c0 := (h5.at 1).blk.get (i := 0) rfl
    have b0 := h5.blk.get (i := 0) rfl
    have b1 := h5.blk.get (i := 1) rfl
    go_wp2
    go_still_tail 10, (by kernel_rfl)
    change wpList _ _ _ _ _ W2.drew
    have h9 := h5.drew.alloc [.iface 146 (.agg #[.int .i64 m.id, .int .i64 t, .int .i64 j])] 45 rfl
    clear c0 b0 b1 h5
    generalize W2.drew = w6 at h9 ⊢
    go_wp2
    go_ret
    refine ⟨_, rfl, ?_⟩
    rw [HM.out]
    exact St.at 1 (agent_shut (R := _ :: R) (m := { m with done := setF m.done t (max (m.done t) j) }) (x := { x with Ld := put x.Ld t (max (get x.Ld t 0) j) }) ⟨hE'.b, hE'.n, hE'.cap, hE'.done⟩ ((((h9.at 1).drop).msgsOne (q := .unpinned m.id t j) (fun _ _ => rfl)).back 7))
end
end Go.Proofs.YtkjggglmemafgaaGreat
