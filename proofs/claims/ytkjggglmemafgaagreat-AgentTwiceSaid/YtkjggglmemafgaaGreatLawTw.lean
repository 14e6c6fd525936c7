import Derived.Test.YtkjggglmemafgaaGreatLawFr
namespace Go.Proofs.YtkjggglmemafgaaGreat
open Go Go.RowKit
set_option linter.unusedVariables false
set_option linter.unusedSimpArgs false
set_option maxRecDepth 20000

/-! ### a message that comes twice -/
theorem agent_srt {w0 w : World} {R : List Asn} {a : Nat} {m : AgentM} (h : St w0 (agentA a m :: R) w) : Srt m.l.held := by
  obtain ⟨x, hE, h1⟩ := agent_open h
  obtain ⟨F, hR⟩ := (h1.at 3).hd
  exact LeaseR.srt hR
structure Same2 (m m' : AgentM) : Prop where
  job : ∀ t, m.l.job t = m'.l.job t
  lost : ∀ t, m.k.lost t = m'.k.lost t
  P : m.k.P = m'.k.P
  c : m.c = m'.c
  gone : m.k.gone = m'.k.gone
theorem Same2.refl (m : AgentM) : Same2 m m := ⟨fun _ => rfl, fun _ => rfl, rfl, rfl, rfl⟩
theorem hear_twice {m : AgentM} (h : Srt m.l.held) (q : MsgM) : Same2 (m.hear q).2 ((m.hear q).2.hear q).2 := by
  cases hr : q.right with
  | false =>
    have e : ∀ x : AgentM, x.hear q = (([], []), x) := fun x => by rw [AgentM.hear, if_neg (by rw [hr]; decide)]
    rw [e, e]; exact Same2.refl _
  | true =>
    have e : ∀ x : AgentM, x.hear q = x.act q := fun x => by rw [AgentM.hear, if_pos hr]
    rw [e, e]
    cases q with
    | pin t j =>
      show Same2 (m.pin t j).2 ((m.pin t j).2.pin t j).2
      by_cases h1 : j ≤ m.done t ∨ j < m.l.job t
      · have e1 : m.pin t j = ([], m) := by rw [AgentM.pin, if_pos h1]
        rw [e1]; show Same2 m (m.pin t j).2; rw [e1]; exact Same2.refl _
      · by_cases h2 : j ≤ m.l.over t
        · have e1 : m.pin t j = ([.gone m.id t j], m) := by rw [AgentM.pin, if_neg h1, if_pos h2]
          rw [e1]; show Same2 m (m.pin t j).2; rw [e1]; exact Same2.refl _
        · have e1 : (m.pin t j).2 = { m with l := m.l.grant t j, k := m.k.pin t } := by rw [AgentM.pin, if_neg h1, if_neg h2]
          obtain ⟨m1, hm1⟩ : ∃ x, x = ({ m with l := m.l.grant t j, k := m.k.pin t } : AgentM) := ⟨_, rfl⟩
          rw [e1, ← hm1]
          have J : m1.l.job t = j := by rw [hm1]; show (m.l.grant t j).job t = j; rw [job_grant h, if_pos rfl]
          have D : m1.done = m.done := by rw [hm1]
          have O : m1.l.over = m.l.over := by rw [hm1]; rfl
          have S : Srt m1.l.held := by rw [hm1]; exact h.putS _ _
          have e2 : (m1.pin t j).2 = { m1 with l := m1.l.grant t j, k := m1.k.pin t } := by
            rw [AgentM.pin, if_neg (by rw [D, J]; omega), if_neg (by rw [O]; exact h2)]
          rw [e2]
          exact ⟨fun k => by show _ = (m1.l.grant t j).job k; rw [job_grant S]; split; (next hk => rw [← hk, J]); rfl, fun _ => rfl, rfl, rfl, rfl⟩
    | unpin t j =>
      have hj : 1 ≤ j := by simp only [MsgM.right, Bool.and_eq_true, within_iff] at hr; exact hr.2.1
      show Same2 (m.unpin t j) ((m.unpin t j).unpin t j)
      have hne : (m.unpin t j).l.job t ≠ j := by
        unfold AgentM.unpin
        split
        · show (m.l.fin t).job t ≠ j; rw [job_fin, if_pos rfl]; omega
        · next h0 => exact h0
      generalize m.unpin t j = m1 at hne ⊢
      have e2 : m1.unpin t j = { m1 with done := setF m1.done t (max (m1.done t) j) } := by rw [AgentM.unpin, if_neg hne]
      rw [e2]
      exact ⟨fun _ => rfl, fun _ => rfl, rfl, rfl, rfl⟩
    | _ => exact Same2.refl _
end Go.Proofs.YtkjggglmemafgaaGreat
