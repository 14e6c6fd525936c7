import Derived.Test.YtkjggglmemafgaaGreatAwake
import Derived.Test.YtkjggglmemafgaaGreatLawOps
namespace Go.Proofs.YtkjggglmemafgaaGreat
open Go Go.RowKit
set_option linter.unusedVariables false
set_option linter.unusedSimpArgs false
set_option maxRecDepth 20000

/-! ### calls on an agent -/
theorem makeM_val (F : Nat → Prop) (w : World) (k t j : Int) : MsgR F w (makeM k t j).val (makeM k t j) ∧ (makeM k t j).fits := by
  unfold makeM
  split
  · exact ⟨rfl, trivial⟩
  · split
    · exact ⟨rfl, trivial⟩
    · split
      · exact ⟨rfl, trivial⟩
      · exact ⟨rfl, trivial⟩
theorem msg_val (F : Nat → Prop) (w : World) (o : OpM) : MsgR F w o.msg.val o.msg ∧ o.msg.fits := by
  unfold OpM.msg
  split
  · exact ⟨rfl, trivial⟩
  · split
    · exact ⟨rfl, trivial⟩
    · split
      · exact ⟨rfl, trivial⟩
      · split
        · exact ⟨rfl, trivial⟩
        · exact makeM_val F w _ _ _
section
variable {w0 w : World} {R : List Asn} {a : Nat}
theorem hear_op {m : AgentM} {n : Nat} (h : St w0 (agentA a m :: R) w) (hb : AgB m n) (hn : n ≤ 80000) (o : OpM) : Calls Tryz.prog 14 #[.pointer (some ⟨a,0,none⟩), o.msg.val] w (CollectS w0 (agentA a (m.hear o.msg).2 :: R) (m.hear o.msg).1.1 (m.hear o.msg).1.2) :=
  (agent_hear ((h.msg0 o.msg _ (msg_val _ _ o).1).at 1) (hb.ok hn) (fun t => hb.sp hn t) (msg_val (fun _ => False) w o).2).mono fun _ _ ⟨v, u, he, hS⟩ => ⟨v, u, he, ((hS.at 3).drop)⟩
end

/-! ### what is let go is gone -/
structure FrI (m : AgentM) : Prop where
  done : ∀ t, m.done t ≤ 99
  job : ∀ t, m.l.job t ≤ 99
  over : ∀ t, m.l.over t ≤ 99
  srt : Srt m.l.held
theorem job_grant {m : LeaseM} (h : Srt m.held) (t j k : Int) : (m.grant t j).job k = if t = k then j else m.job k := by
  unfold LeaseM.job LeaseM.grant
  simp only []
  rw [get_putS h]
  split <;> rfl
theorem job_fin (m : LeaseM) (t k : Int) : (m.fin t).job k = if t = k then 0 else m.job k := by
  unfold LeaseM.job LeaseM.fin
  simp only []
  rw [get_del]
  split <;> rfl
theorem FrI.hear {m : AgentM} (h : FrI m) (q : MsgM) (hq : ∀ t j, q = .pin t j ∨ q = .unpin t j → j ≤ 99) : FrI (m.hear q).2 := by
  unfold AgentM.hear
  split
  · cases q with
    | pin t j =>
      have hj := hq t j (.inl rfl)
      simp only [AgentM.act, AgentM.pin]
      split
      · exact h
      · split
        · exact h
        · exact ⟨h.done, fun k => by show (m.l.grant t j).job k ≤ 99; rw [job_grant h.srt]; split; exact hj; exact h.job k, h.over, h.srt.putS _ _⟩
    | unpin t j =>
      have hj := hq t j (.inr rfl)
      have hd : ∀ k, setF m.done t (max (m.done t) j) k ≤ 99 := fun k => by
        have h1 := h.done t; have h2 := h.done k
        simp only [setF]; split <;> omega
      simp only [AgentM.act, AgentM.unpin]
      split
      · exact ⟨hd, fun k => by show (m.l.fin t).job k ≤ 99; rw [job_fin]; split; decide; exact h.job k, h.over, del_srt h.srt t⟩
      · exact ⟨hd, h.job, h.over, h.srt⟩
    | _ => exact h
  · exact h
theorem FrI.span {m : AgentM} (h : FrI m) (k : KeepM) : FrI { m with k := k } := ⟨h.done, h.job, h.over, h.srt⟩
theorem FrI.crumb {m : AgentM} (h : FrI m) (t o : Int) : FrI (m.crumb t o).2 := by
  unfold AgentM.crumb
  split
  · exact h
  · split
    · exact h
    · exact ⟨h.done, h.job, h.over, h.srt⟩
theorem FrI.new : FrI (AgentM.new 1 cfg0) := ⟨fun _ => by show (0 : Int) ≤ 99; decide, fun _ => by show (0 : Int) ≤ 99; decide, fun _ => by show (0 : Int) ≤ 99; decide, List.Pairwise.nil⟩
theorem opmsg_job (o : OpM) (ho : ¬ 100 ≤ o.n) : ∀ t j, o.msg = .pin t j ∨ o.msg = .unpin t j → j ≤ 99 := by
  intro t j h
  rcases h with h | h
  all_goals
    unfold OpM.msg makeM at h
    (repeat' split at h) <;> first | (cases h; omega) | cases h
/-- the last four messages -/
structure FrEnd (m : AgentM) (t j : Int) : Prop where
  e1 : ∃ p, (m.hear (.pin t j)).1 = ([p], [])
  e2 : ∃ p, ((m.hear (.pin t j)).2.hear (.unpin t j)).1 = ([p], [])
  e3 : ∃ p, (((m.hear (.pin t j)).2.hear (.unpin t j)).2.hear (.unpin t j)).1 = ([p], [])
  e4 : ((((m.hear (.pin t j)).2.hear (.unpin t j)).2.hear (.unpin t j)).2.hear (.pin t j)).1 = ([], [])
  job : ((((m.hear (.pin t j)).2.hear (.unpin t j)).2.hear (.unpin t j)).2.hear (.pin t j)).2.l.job t = 0
  spans : get ((((m.hear (.pin t j)).2.hear (.unpin t j)).2.hear (.unpin t j)).2.hear (.pin t j)).2.k.P.m t [] = []
  crumbs : ((((m.hear (.pin t j)).2.hear (.unpin t j)).2.hear (.unpin t j)).2.hear (.pin t j)).2.c.of t = []
  lost : ((((m.hear (.pin t j)).2.hear (.unpin t j)).2.hear (.unpin t j)).2.hear (.pin t j)).2.k.lost t = false
theorem setF_same {α : Type} (f : Int → α) (t : Int) (v : α) : setF f t v t = v := by simp [setF]
theorem FrI.fin {m : AgentM} (h : FrI m) {t j : Int} (ht : 1 ≤ t ∧ t ≤ 9) (hj : 100 ≤ j ∧ j ≤ 199) : FrEnd m t j := by
  have hr : (MsgM.pin t j).right = true := by simp only [MsgM.right, Bool.and_eq_true, within_iff]; omega
  have hu : (MsgM.unpin t j).right = true := by simp only [MsgM.right, Bool.and_eq_true, within_iff]; omega
  have H1 : ∀ x : AgentM, x.hear (.pin t j) = (((x.pin t j).1, []), (x.pin t j).2) := fun x => by rw [AgentM.hear, if_pos hr]; rfl
  have H2 : ∀ x : AgentM, x.hear (.unpin t j) = (([.unpinned x.id t j], []), x.unpin t j) := fun x => by rw [AgentM.hear, if_pos hu]; rfl
  have d := h.done t; have b := h.job t; have o := h.over t
  have E1 : ∃ p, m.pin t j = ([p], { m with l := m.l.grant t j, k := m.k.pin t }) := ⟨_, by rw [AgentM.pin, if_neg (by omega), if_neg (by omega)]⟩
  obtain ⟨p, E1⟩ := E1
  have J1 : ({ m with l := m.l.grant t j, k := m.k.pin t } : AgentM).l.job t = j := by show (m.l.grant t j).job t = j; rw [job_grant h.srt, if_pos rfl]
  obtain ⟨m1, hm1⟩ : ∃ x, x = ({ m with l := m.l.grant t j, k := m.k.pin t } : AgentM) := ⟨_, rfl⟩
  rw [← hm1] at E1 J1
  have E2 : m1.unpin t j = { m1 with done := setF m1.done t (max (m1.done t) j), l := m1.l.fin t, k := m1.k.forget t, c := m1.c.drop t } := by rw [AgentM.unpin, if_pos J1]
  obtain ⟨m2, hm2⟩ : ∃ x, x = ({ m1 with done := setF m1.done t (max (m1.done t) j), l := m1.l.fin t, k := m1.k.forget t, c := m1.c.drop t } : AgentM) := ⟨_, rfl⟩
  rw [← hm2] at E2
  have J2 : m2.l.job t = 0 := by rw [hm2]; show (m1.l.fin t).job t = 0; rw [job_fin, if_pos rfl]
  have E3 : m2.unpin t j = { m2 with done := setF m2.done t (max (m2.done t) j) } := by rw [AgentM.unpin, if_neg (by omega)]
  obtain ⟨m3, hm3⟩ : ∃ x, x = ({ m2 with done := setF m2.done t (max (m2.done t) j) } : AgentM) := ⟨_, rfl⟩
  rw [← hm3] at E3
  have D3 : j ≤ m3.done t := by rw [hm3]; show j ≤ setF m2.done t (max (m2.done t) j) t; rw [setF_same]; omega
  have E4 : m3.pin t j = ([], m3) := by rw [AgentM.pin, if_pos (.inl D3)]
  have L3 : m3.l = m2.l := by rw [hm3]
  have K3 : m3.k = m1.k.forget t := by rw [hm3, hm2]
  have C3 : m3.c = m1.c.drop t := by rw [hm3, hm2]
  have A1 : m.hear (.pin t j) = (([p], []), m1) := by rw [H1, E1]
  have A2 : m1.hear (.unpin t j) = (([.unpinned m1.id t j], []), m2) := by rw [H2, E2]
  have A3 : m2.hear (.unpin t j) = (([.unpinned m2.id t j], []), m3) := by rw [H2, E3]
  have A4 : m3.hear (.pin t j) = (([], []), m3) := by rw [H1, E4]
  refine ⟨?_, ?_, ?_, ?_, ?_, ?_, ?_, ?_⟩ <;> simp only [A1, A2, A3, A4]
  · exact ⟨_, rfl⟩
  · exact ⟨_, rfl⟩
  · exact ⟨_, rfl⟩
  · rw [L3, J2]
  · rw [K3]; show get (del m1.k.P.m t) t [] = []; rw [get_del, if_pos rfl]
  · rw [C3]; show setF m1.c.of t [] t = []; rw [setF_same]
  · rw [K3]; show setT m1.k.lost t false t = false; simp [setT]
end Go.Proofs.YtkjggglmemafgaaGreat
