import Derived.Test.YtkjggglmemafgaaGreatAgentB
import Derived.Deep.RegionHeld3
namespace Go.Proofs.YtkjggglmemafgaaGreat
open Go Go.RowKit
set_option linter.unusedVariables false
set_option linter.unusedSimpArgs false
set_option maxRecDepth 20000

section
variable {w0 w : World} {R : List Asn} {a : Nat} {m : AgentM}
def KeepM.pin (m : KeepM) (t : Int) : KeepM := { m with pins := setT m.pins t true }
def AgentM.pin (m : AgentM) (t j : Int) : List MsgM × AgentM :=
  if j ≤ m.done t ∨ j < m.l.job t then ([], m)
  else if j ≤ m.l.over t then ([.gone m.id t j], m)
  else ([.pinned ⟨m.id, t, j, (get m.k.P.m t []).length, m.c.of t, m.k.lost t⟩], { m with l := m.l.grant t j, k := m.k.pin t })
theorem St.msgsPinned {B : Nat} {cv : Value} {q : PinM} (h : St w0 (blkA B 45 [.iface 136 (.agg #[.int .i64 q.agent, .int .i64 q.trace, .int .i64 q.job, .int .i64 q.count, cv, .bool q.lost])] :: intsA cv q.crumbs :: R) w) : St w0 (msgsA (.slice (some ⟨B, 0, none⟩) 1 1) [.pinned q] :: R) w := by
  refine (St.fold [_, _] h).head fun F hF => ?_
  have bd := Asn.bd _ hF
  obtain ⟨F1, F2, d1, e1, ⟨hB, hBf, b1⟩, F3, F4, d2, e2, ⟨hS, hSf, b2⟩, -⟩ := hF
  refine ⟨⟨_, rfl, ⟨⟨_, _, rfl, Nat.le_refl _, fun h => by cases h⟩, fun _ => ⟨B, 0, 1, rfl, (e1 B).2 (.inl hBf), Nat.le_refl _⟩, fun hv j z hz => by cases hv; rw [Nat.zero_add]; exact hB.get hz⟩, fun i z y hz hy => ?_⟩, bd⟩
  cases i with
  | zero =>
    simp at hz hy; subst hz hy
    exact ⟨cv, rfl, Rs.of_sl hS (fun g hg => (e1 g).2 (.inr ((e2 g).2 (.inl (hSf g hg)))))⟩
  | succ i => simp at hz
/-- the tests of pin, decided -/
theorem agent_pin_none (h : St w0 (agentA a m :: R) w) (t j : Int) (hb : j ≤ m.done t ∨ j < m.l.job t) : Calls Tryz.prog 49 #[.pointer (some ⟨a,0,none⟩), .agg #[.int .i64 t, .int .i64 j]] w (fun e w' => e = .returned (.slice none 0 0) ∧ St w0 (agentA a m :: R) w') := by
  obtain ⟨x, hE, h1⟩ := agent_open h
  have h2 := h1.alloc [.int .i64 t, .int .i64 j] 48 rfl
  have hdn : get x.Ld t 0 = m.done t := hE.done t
  obtain ⟨W, hW⟩ : ∃ W, W = w.alloc (.cells #[.int .i64 t, .int .i64 j] 48) := ⟨_, rfl⟩
  rw [← hW] at h2
  have c5 := (h2.at 1).blk.get (i := 5) rfl
  have c3 := (h2.at 1).blk.get (i := 3) rfl
  have im := (h2.at 7).im
  have b0 := h2.blk.get (i := 0) rfl
  have b1 := h2.blk.get (i := 1) rfl
  have HJ := fun n => leaseS_job ((h2.drewN n).at 4) t
  have HW : Hid _ := hW
  rw [← hdn] at hb
  clear hW hdn
  by_cases h1 : j ≤ get x.Ld t 0
  · clear hb
    go_enter Tryz.func49, Tryz.ntmps49
    go_wp2
    rw [← HW.out]
    go_quiet ((go_at_call 46; exact quiet_same (HJ _)))
    go_wp2
    go_ret
    exact ⟨rfl, agent_shut hE (h2.drewN nq).drop⟩
  · have hb2 := hb.resolve_left h1
    have hd1 : decide (j ≤ get x.Ld t 0) = false := by simpa using h1
    clear hb
    go_enter Tryz.func49, Tryz.ntmps49
    go_wp2
    rw [← HW.out]
    go_quiet ((go_at_call 46; exact quiet_same (HJ _)))
    go_wp2
    go_ret
    exact ⟨rfl, agent_shut hE (h2.drewN nq).drop⟩
theorem agent_pin_gone (h : St w0 (agentA a m :: R) w) (t j : Int) (hb1 : ¬ j ≤ m.done t) (hb2 : ¬ j < m.l.job t) (hb3 : j ≤ m.l.over t) : Calls Tryz.prog 49 #[.pointer (some ⟨a,0,none⟩), .agg #[.int .i64 t, .int .i64 j]] w (MsgsS w0 (agentA a m :: R) [.gone m.id t j]) := by
  obtain ⟨x, hE, h1⟩ := agent_open h
  have h2 := h1.alloc [.int .i64 t, .int .i64 j] 48 rfl
  have hdn : get x.Ld t 0 = m.done t := hE.done t
  obtain ⟨W, hW⟩ : ∃ W, W = w.alloc (.cells #[.int .i64 t, .int .i64 j] 48) := ⟨_, rfl⟩
  rw [← hW] at h2
  have c5 := (h2.at 1).blk.get (i := 5) rfl
  have c3 := (h2.at 1).blk.get (i := 3) rfl
  have im := (h2.at 7).im
  have b0 := h2.blk.get (i := 0) rfl
  have b1 := h2.blk.get (i := 1) rfl
  have HJ := fun n => leaseS_job ((h2.drewN n).at 4) t
  have HW : Hid _ := hW
  rw [← hdn] at hb1
  have hd1 : decide (j ≤ get x.Ld t 0) = false := by simpa using hb1
  clear hW hdn
  go_enter Tryz.func49, Tryz.ntmps49
  go_wp2
  rw [← HW.out]
  go_quiet ((go_at_call 46; exact quiet_same (HJ _)))
  have h3 := h2.drewN nq
  clear c5 c3 im b0 b1 HJ h2 HW
  generalize W.drewN nq = W1 at h3 ⊢
  have c3 := (h3.at 1).blk.get (i := 3) rfl
  have b0 := h3.blk.get (i := 0) rfl
  have b1 := h3.blk.get (i := 1) rfl
  have HO := fun n => leaseS_over ((h3.drewN n).at 4) t
  go_wp2
  go_quiet ((go_at_call 97; exact quiet_same (HO _)))
  have h4 := h3.drewN nq
  clear c3 b0 b1 HO h3
  generalize W1.drewN nq = W2 at h4 ⊢
  have b0 := h4.blk.get (i := 0) rfl
  have b1 := h4.blk.get (i := 1) rfl
  have H1 := agent_gone (agent_shut hE h4.drop) t j
  go_wp2_with fail
  refine H1.mono ?_
  rintro e w3 ⟨v, rfl, h5⟩
  go_wp2
  go_ret
  exact ⟨_, rfl, h5⟩
set_option maxHeartbeats 1000000 in
theorem agent_pin_main (h : St w0 (agentA a m :: R) w) (hok : AgentOk m) (t j : Int) (hb1 : ¬ j ≤ m.done t) (hb2 : ¬ j < m.l.job t) (hb3 : ¬ j ≤ m.l.over t) : Calls Tryz.prog 49 #[.pointer (some ⟨a,0,none⟩), .agg #[.int .i64 t, .int .i64 j]] w
    (MsgsS w0 (agentA a { m with l := m.l.grant t j, k := m.k.pin t } :: R) [.pinned ⟨m.id, t, j, (get m.k.P.m t []).length, m.c.of t, m.k.lost t⟩]) := by
  obtain ⟨x, hE, h1⟩ := agent_open h
  have h2 := h1.alloc [.int .i64 t, .int .i64 j] 48 rfl
  have hdn : get x.Ld t 0 = m.done t := hE.done t
  obtain ⟨W, hW⟩ : ∃ W, W = w.alloc (.cells #[.int .i64 t, .int .i64 j] 48) := ⟨_, rfl⟩
  rw [← hW] at h2
  have c5 := (h2.at 1).blk.get (i := 5) rfl
  have c3 := (h2.at 1).blk.get (i := 3) rfl
  have im := (h2.at 7).im
  have b0 := h2.blk.get (i := 0) rfl
  have b1 := h2.blk.get (i := 1) rfl
  have HJ := fun n => leaseS_job ((h2.drewN n).at 4) t
  have HW : Hid _ := hW
  rw [← hdn] at hb1
  have hd1 : decide (j ≤ get x.Ld t 0) = false := by simpa using hb1
  clear hW hdn
  go_enter Tryz.func49, Tryz.ntmps49
  go_wp2
  rw [← HW.out]
  go_quiet ((go_at_call 46; exact quiet_same (HJ _)))
  have h3 := h2.drewN nq
  clear c5 c3 im b0 b1 HJ h2 HW
  generalize W.drewN nq = W1 at h3 ⊢
  have c3 := (h3.at 1).blk.get (i := 3) rfl
  have b0 := h3.blk.get (i := 0) rfl
  have b1 := h3.blk.get (i := 1) rfl
  have HO := fun n => leaseS_over ((h3.drewN n).at 4) t
  go_wp2
  go_quiet ((go_at_call 97; exact quiet_same (HO _)))
  have h4 := h3.drewN nq
  clear c3 b0 b1 HO h3
  generalize W1.drewN nq = W2 at h4 ⊢
  have c3 := (h4.at 1).blk.get (i := 3) rfl
  have b0 := h4.blk.get (i := 0) rfl
  have b1 := h4.blk.get (i := 1) rfl
  have H1 := leaseS_grant ((h4.drew).at 4) t j
  go_wp2
  go_region_held3 (fun W => W.cell? ⟨a, 3, none⟩ = some (.pointer (some ⟨x.l, 0, none⟩)) ∧ W.cell? ⟨w.heap.size, 0, none⟩ = some (.int .i64 t) ∧ W.cell? ⟨w.heap.size, 1, none⟩ = some (.int .i64 j)) (first | exact ⟨c3, b0, b1⟩ | exact ⟨k3, k0, k1⟩)
    (first | (go_at_call 99; refine H1.mono ?_; rintro e w3 ⟨rfl, h5⟩; have k3 := (h5.at 2).blk.get (i := 3) rfl; have k0 := (h5.at 1).blk.get (i := 0) rfl; have k1 := (h5.at 1).blk.get (i := 1) rfl))
  clear c3 b0 b1 k3 k0 k1 h4 H1
  replace h5 := h5.back 4
  have c1 := (h5.at 1).blk.get (i := 1) rfl
  have b0 := h5.blk.get (i := 0) rfl
  have H1 := keepS_pin ((h5.drew).at 2) t
  go_wp2
  go_region_held3 (fun W => W.cell? ⟨a, 1, none⟩ = some (.pointer (some ⟨x.k, 0, none⟩)) ∧ W.cell? ⟨w.heap.size, 0, none⟩ = some (.int .i64 t)) (first | exact ⟨c1, b0⟩ | exact ⟨k3, k0⟩)
    (first | (go_at_call 100; refine H1.mono ?_; rintro e w4 ⟨rfl, h6⟩; have k3 := (h6.at 2).blk.get (i := 1) rfl; have k0 := (h6.at 1).blk.get (i := 0) rfl))
  clear c1 b0 k3 k0 h5 H1
  replace h6 : St w0 (blkA w.heap.size 48 [.int .i64 t, .int .i64 j] :: agentL a { m with l := m.l.grant t j, k := m.k.pin t } x ++ R) w4 := h6.back 2
  have c0 := (h6.at 1).blk.get (i := 0) rfl
  have c1 := (h6.at 1).blk.get (i := 1) rfl
  have c2 := (h6.at 1).blk.get (i := 2) rfl
  have b0 := h6.blk.get (i := 0) rfl
  have b1 := h6.blk.get (i := 1) rfl
  have H1 := keepS_spans ((h6.drew).at 2) t
  go_wp2
  go_region_held3 (fun W => W.cell? ⟨a, 0, none⟩ = some (.int .i64 m.id) ∧ W.cell? ⟨a, 1, none⟩ = some (.pointer (some ⟨x.k, 0, none⟩)) ∧ W.cell? ⟨a, 2, none⟩ = some (.pointer (some ⟨x.c, 0, none⟩)) ∧ W.cell? ⟨w.heap.size, 0, none⟩ = some (.int .i64 t) ∧ W.cell? ⟨w.heap.size, 1, none⟩ = some (.int .i64 j))
    (first | exact ⟨c0, c1, c2, b0, b1⟩ | exact ⟨d0, d1, d2, q0, q1⟩ | exact ⟨f0, f1, f2, s0, s1⟩ | exact ⟨(World.cell?_alloc_lt _ _ _ fl).trans f0, (World.cell?_alloc_lt _ _ _ fl).trans f1, (World.cell?_alloc_lt _ _ _ fl).trans f2, (World.cell?_alloc_lt _ _ _ sl).trans s0, (World.cell?_alloc_lt _ _ _ sl).trans s1⟩)
    (first
      | (go_at_call 53; refine H1.mono ?_; rintro e w5 ⟨sv, rfl, h7, -⟩; obtain ⟨sva, svc, rfl⟩ := h7.sl.lit; have d0 := (h7.at 3).blk.get (i := 0) rfl; have d1 := (h7.at 3).blk.get (i := 1) rfl; have d2 := (h7.at 3).blk.get (i := 2) rfl; have q0 := (h7.at 2).blk.get (i := 0) rfl; have q1 := (h7.at 2).blk.get (i := 1) rfl)
      | (go_at_call 54; refine (crumbS_of (h7.at 4) hok.c t).mono ?_; rintro e w6 ⟨cv, rfl, h8, -⟩; obtain ⟨cva, cvc, rfl⟩ := h8.sl.lit; have f0 := (h8.at 5).blk.get (i := 0) rfl; have f1 := (h8.at 5).blk.get (i := 1) rfl; have f2 := (h8.at 5).blk.get (i := 2) rfl; have s0 := (h8.at 4).blk.get (i := 0) rfl; have s1 := (h8.at 4).blk.get (i := 1) rfl; have fl := (h8.at 5).blk.lt; have sl := (h8.at 4).blk.lt)
      | (go_at_call 55; refine (keepS_lost (h8.at 3) t).mono ?_; rintro e w7 ⟨rfl, rfl⟩))
  go_wp2
  go_ret
  have h9 := ((((((((h8.at 2).drop).at 3).drop).at 1).at 2).at 3).at 3)
  have h10 := (h9.alloc [.iface 136 (.agg #[.int .i64 m.id, .int .i64 t, .int .i64 j, .int .i64 (get m.k.P.m t []).length, .slice cva (m.c.of t).length cvc, .bool (m.k.lost t)])] 45 rfl).msgsPinned (q := ⟨m.id, t, j, (get m.k.P.m t []).length, m.c.of t, m.k.lost t⟩)
  refine ⟨.slice (some ⟨w6.heap.size, 0, none⟩) 1 1, rfl, ?_⟩
  exact St.at 1 (agent_shut (R := _ :: R) (m := { m with l := m.l.grant t j, k := m.k.pin t }) (x := x) ⟨hE.b, hE.n, hE.cap, hE.done⟩ (h10.back 7))
theorem agent_pin (h : St w0 (agentA a m :: R) w) (hok : AgentOk m) (t j : Int) : Calls Tryz.prog 49 #[.pointer (some ⟨a,0,none⟩), .agg #[.int .i64 t, .int .i64 j]] w (MsgsS w0 (agentA a (m.pin t j).2 :: R) (m.pin t j).1) := by
  by_cases h1 : j ≤ m.done t ∨ j < m.l.job t
  · rw [AgentM.pin, if_pos h1]
    exact (agent_pin_none h t j h1).mono fun e w' ⟨he, hS⟩ => ⟨_, he, hS.msgsNil⟩
  · rw [AgentM.pin, if_neg h1]
    by_cases h2 : j ≤ m.l.over t
    · rw [if_pos h2]
      exact agent_pin_gone h t j (by omega) (by omega) h2
    · rw [if_neg h2]
      exact agent_pin_main h hok t j (by omega) (by omega) h2
end
end Go.Proofs.YtkjggglmemafgaaGreat
