import Derived.Test.YtkjggglmemafgaaGreatLawFr
namespace Go.Proofs.YtkjggglmemafgaaGreat
open Go Go.RowKit
set_option linter.unusedVariables false
set_option linter.unusedSimpArgs false
set_option maxRecDepth 20000

/-! ### how many buffers, and what a lost trace is answered -/
theorem agent_used_le {w0 w : World} {R : List Asn} {a : Nat} {m : AgentM} (h : St w0 (agentA a m :: R) w) : m.k.P.used ≤ m.k.P.n := by
  obtain ⟨x, hE, h1⟩ := agent_open h
  obtain ⟨F, Fp, p, pb, lb, gv, Lp, Ll, hR⟩ := (h1.at 1).hd
  obtain ⟨bb, mb, fv, C, bufs, free, E, h2, h3⟩ := hR.hP
  have := h3.used (fun i l hl => (h2.hbuf i l hl).1)
  omega
theorem pwrite_n (P : PoolS) (t : Int) (s : ByteArray) : (P.write t s).2.2.n = P.n := by
  unfold PoolS.write; split
  · rfl
  · split <;> rfl
theorem room_n (m : KeepM) (t : Int) : (m.room t).2.P.n = m.P.n := by
  unfold KeepM.room; split <;> rfl
theorem writeN_n (t : Int) (s : ByteArray) : ∀ (k : Nat) (m : KeepM), (KeepM.writeN k m t s).2.2.P.n = m.P.n
  | 0, m => rfl
  | k + 1, m => by
    rw [KeepM.writeN]
    split
    · exact pwrite_n _ _ _
    · split
      · exact room_n m t
      · rw [writeN_n t s k, room_n]
theorem write_n (m : KeepM) (t : Int) (s : ByteArray) : (m.write t s).2.2.P.n = m.P.n := by
  unfold KeepM.write
  split
  · rfl
  · split
    · rfl
    · split
      · rfl
      · exact writeN_n t s _ m
theorem write_lost (m : KeepM) (t : Int) (s : ByteArray) (h : m.lost t = true) : (m.write t s).2.1 = 1 ∨ (m.write t s).2.1 = 10 := by
  unfold KeepM.write
  split
  · exact .inl rfl
  · first | (rw [if_pos h]; exact .inr rfl) | exact .inr rfl
theorem pwrite_ok (P : PoolS) (t : Int) (s : ByteArray) (h : (P.write t s).2.1 = 0) : (P.write t s).1.tr = t ∧ (P.write t s).1.tx = s := by
  unfold PoolS.write at h ⊢
  split
  · next hc => rw [if_pos hc] at h; simp at h
  · next hc =>
    rw [if_neg hc] at h
    split
    · next hd => rw [if_pos hd] at h; simp at h
    · exact ⟨rfl, rfl⟩
theorem writeN_ok (t : Int) (s : ByteArray) : ∀ (k : Nat) (m : KeepM), (KeepM.writeN k m t s).2.1 = 0 → (KeepM.writeN k m t s).1.tr = t ∧ (KeepM.writeN k m t s).1.tx = s
  | 0, m => fun h => by simp [KeepM.writeN] at h
  | k + 1, m => by
    rw [KeepM.writeN]
    split
    · exact pwrite_ok _ _ _
    · split
      · next h0 => intro h; exact absurd h h0
      · exact writeN_ok t s k _
theorem write_ok (m : KeepM) (t : Int) (s : ByteArray) (h : (m.write t s).2.1 = 0) : (m.write t s).1.tr = t ∧ (m.write t s).1.tx = s := by
  unfold KeepM.write at h ⊢
  split
  · next hc => rw [if_pos hc] at h; simp at h
  · next hc =>
    rw [if_neg hc] at h
    split
    · next hd => rw [if_pos hd] at h; simp at h
    · next hd =>
      rw [if_neg hd] at h
      split
      · next he => rw [if_pos he] at h; simp at h
      · next he =>
        rw [if_neg he] at h
        exact writeN_ok t s _ m h
theorem crumb_n (m : AgentM) (t o : Int) : (m.crumb t o).2.k.P.n = m.k.P.n := by
  unfold AgentM.crumb; split
  · rfl
  · split <;> rfl
theorem trigger_n (m : AgentM) (t c : Int) : (m.trigger t c).2.k.P.n = m.k.P.n := by
  unfold AgentM.trigger; split
  · rfl
  · split
    · rfl
    · split <;> rfl
theorem unpins_n : ∀ (l : List Int) (m : KeepM), (l.foldl KeepM.unpin m).P.n = m.P.n
  | [], m => rfl
  | t :: l, m => by rw [List.foldl_cons, unpins_n l]; rfl
theorem tick_n (m : AgentM) : m.tick.k.P.n = m.k.P.n := unpins_n _ _
theorem hear_n (m : AgentM) (q : MsgM) : (m.hear q).2.k.P.n = m.k.P.n := by
  unfold AgentM.hear
  split
  · cases q with
    | pin t j =>
      simp only [AgentM.act, AgentM.pin]
      split
      · rfl
      · split <;> rfl
    | unpin t j =>
      simp only [AgentM.act, AgentM.unpin]
      split <;> rfl
    | _ => rfl
  · rfl
end Go.Proofs.YtkjggglmemafgaaGreat
