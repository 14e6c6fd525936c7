import Derived.Test.YtkjggglmemafgaaGreatAgentF
import Derived.Test.YtkjggglmemafgaaGreatAgentN
namespace Go.Proofs.YtkjggglmemafgaaGreat
open Go Go.RowKit
set_option linter.unusedVariables false
set_option linter.unusedSimpArgs false
set_option maxRecDepth 20000

/-! ### what an agent holds, and how much of it -/
structure KeepN (m : KeepM) (n : Nat) : Prop where
  small : m.gone.length + m.P.m.length ≤ n
  sp : ∀ t, (get m.P.m t []).length ≤ n
  srt : Srt m.P.m
theorem KeepN.mono {m : KeepM} {n n' : Nat} (h : KeepN m n) (hn : n ≤ n') : KeepN m n' := ⟨Nat.le_trans h.small hn, fun t => Nat.le_trans (h.sp t) hn, h.srt⟩
theorem del_len {α : Type} (L : List (Int × α)) (t : Int) : (del L t).length ≤ L.length := List.length_filter_le ..
theorem del_srt {α : Type} {L : List (Int × α)} (h : Srt L) (t : Int) : Srt (del L t) := List.Pairwise.filter _ h
theorem putS_len {α : Type} (L : List (Int × α)) (t : Int) (v : α) : (putS L t v).length ≤ L.length + 1 := by
  induction L with
  | nil => simp [putS]
  | cons a L ih => simp only [putS]; split <;> (try split) <;> simp <;> omega
theorem KeepN.write {m : KeepM} {n : Nat} (h : KeepN m n) (t : Int) (s : ByteArray) : KeepN { m with P := (m.P.write t s).2.2 } (n + 1) := by
  unfold PoolS.write
  split
  · exact h.mono (by omega)
  · split
    · exact h.mono (by omega)
    · refine ⟨?_, fun k => ?_, h.srt.putS _ _⟩
      · have := h.small; have := putS_len m.P.m t (get m.P.m t [] ++ [⟨t, (get m.P.m t []).length + 1, s⟩])
        simp only []; omega
      · simp only []
        rw [get_putS h.srt]
        have h1 := h.sp t; have h2 := h.sp k
        split
        · simp; omega
        · omega
theorem KeepN.drop {m : KeepM} {n : Nat} (h : KeepN m n) (t : Int) (pins lost : Int → Bool) : KeepN { m with P := m.P.drop t, pins := pins, lost := lost } n := by
  refine ⟨?_, fun k => ?_, del_srt h.srt t⟩
  · have := h.small; have := del_len m.P.m t; simp only [PoolS.drop]; omega
  · simp only [PoolS.drop]; rw [get_del]; split
    · simp
    · exact h.sp k
theorem KeepN.room {m : KeepM} {n : Nat} (h : KeepN m n) (t : Int) : KeepN (m.room t).2 (n + 1) ∧ ((m.room t).1 = 0 → KeepN (m.room t).2 n) := by
  have h1 : (∀ k, (get (m.room t).2.P.m k []).length ≤ n) ∧ Srt (m.room t).2.P.m ∧ (m.room t).2.gone.length + (m.room t).2.P.m.length ≤ n + 1 := by
    unfold KeepM.room
    split
    · exact ⟨h.sp, h.srt, by have := h.small; simp only []; omega⟩
    · refine ⟨fun k => ?_, del_srt h.srt _, ?_⟩
      · simp only [PoolS.drop]; rw [get_del]; split
        · simp
        · exact h.sp k
      · have := h.small; have := del_len m.P.m (leastS m.seed (m.may ++ [t])); simp only [PoolS.drop, List.length_append, List.length_singleton]; omega
  refine ⟨⟨h1.2.2, fun k => Nat.le_succ_of_le (h1.1 k), h1.2.1⟩, fun h0 => ⟨?_, h1.1, h1.2.1⟩⟩
  have := room_ok h0; have := h.small; omega
theorem KeepN.writeN (t : Int) (s : ByteArray) : ∀ (k : Nat) {m : KeepM} {n : Nat}, KeepN m n → KeepN (KeepM.writeN k m t s).2.2 (n + 1)
  | 0, m, n, h => h.mono (by omega)
  | k + 1, m, n, h => by
    rw [KeepM.writeN]
    split
    · exact h.write t s
    · split
      · exact (h.room t).1
      · next h0 => exact KeepN.writeN t s k ((h.room t).2 (by simpa using h0))
theorem KeepN.kwrite {m : KeepM} {n : Nat} (h : KeepN m n) (t : Int) (s : ByteArray) : KeepN (m.write t s).2.2 (n + 1) := by
  unfold KeepM.write
  split
  · exact h.mono (by omega)
  · split
    · exact h.mono (by omega)
    · split
      · exact h.mono (by omega)
      · exact h.writeN t s _
def BuckN (m : BuckM) (n : Nat) : Prop := 0 ≤ m.burst ∧ m.burst ≤ 1000 ∧ 0 ≤ m.rate ∧ m.rate ≤ 1000 ∧ 0 ≤ m.left ∧ m.left ≤ 1000 ∧ 0 ≤ m.taken ∧ m.taken ≤ n
theorem BuckN.take {m : BuckM} {n : Nat} (h : BuckN m n) : BuckN m.take.2 (n + 1) := by
  obtain ⟨h1, h2, h3, h4, h5, h6, h7, h8⟩ := h
  unfold BuckM.take
  split
  · exact ⟨h1, h2, h3, h4, h5, h6, h7, by show m.taken ≤ ((n + 1 : Nat) : Int); omega⟩
  · exact ⟨h1, h2, h3, h4, by show 0 ≤ m.left - 1; omega, by show m.left - 1 ≤ 1000; omega, by show 0 ≤ m.taken + 1; omega, by show m.taken + 1 ≤ ((n + 1 : Nat) : Int); omega⟩
theorem BuckN.tick {m : BuckM} {n : Nat} (h : BuckN m n) : BuckN m.tick n := by
  obtain ⟨h1, h2, h3, h4, h5, h6, h7, h8⟩ := h
  refine ⟨h1, h2, h3, h4, ?_, ?_, h7, h8⟩ <;> simp only [BuckM.tick] <;> split <;> omega
theorem LeaseOk.grant {m : LeaseM} (h : LeaseOk m) {t j : Int} (ht : 1 ≤ t ∧ t ≤ 65535) (hj : 1 ≤ j ∧ j ≤ 1073741824) : LeaseOk (m.grant t j) :=
  ⟨h.ticks, fun x hx => by
    exact (putS_keys _ _ _ x hx).elim (fun e => by rw [e]; exact ⟨ht.1, ht.2, hj.1, hj.2, h.ticks.1, h.ticks.2⟩) (fun hx => h.held x hx), h.over⟩
theorem LeaseOk.fin {m : LeaseM} (h : LeaseOk m) (t : Int) : LeaseOk (m.fin t) := ⟨h.ticks, fun x hx => h.held x (mem_del.1 hx).1, h.over⟩
theorem overOf_rng {A : List (Int × (Int × Int))} (k : Int) : ∀ {r : Int}, (∀ x ∈ A, 1 ≤ x.2.1 ∧ x.2.1 ≤ 1073741824) → 0 ≤ r ∧ r ≤ 1073741824 → 0 ≤ A.foldl (fun r x => if x.1 = k ∧ ¬ 1 < x.2.2 then max r x.2.1 else r) r ∧ A.foldl (fun r x => if x.1 = k ∧ ¬ 1 < x.2.2 then max r x.2.1 else r) r ≤ 1073741824 := by
  induction A with
  | nil => intro r _ h; exact h
  | cons a A ih =>
    intro r hA h
    rw [List.foldl_cons]
    refine ih (fun x hx => hA x (List.mem_cons_of_mem _ hx)) ?_
    have := hA a (List.mem_cons_self ..)
    split <;> omega
theorem LeaseOk.tick {m : LeaseM} (h : LeaseOk m) : LeaseOk m.tick :=
  ⟨h.ticks, fun x hx => by
    obtain ⟨y, hy, e⟩ := List.mem_filterMap.1 hx
    have := h.held y hy
    unfold stepH at e
    (split at e; (cases e; simp only []; omega); cases e), fun k => overOf_rng k (fun x hx => ⟨(h.held x hx).2.2.1, (h.held x hx).2.2.2.1⟩) (h.over k)⟩
structure AgB (m : AgentM) (n : Nat) : Prop where
  c : CrumbOk m.c
  l : LeaseOk m.l
  b : ∀ x ∈ m.b, BuckN x n
  done : ∀ t, 0 ≤ m.done t ∧ m.done t ≤ 1073741824
  k : KeepN m.k n
theorem AgB.mono {m : AgentM} {n n' : Nat} (h : AgB m n) (hn : n ≤ n') : AgB m n' := ⟨h.c, h.l, fun x hx => by have := h.b x hx; unfold BuckN at this ⊢; omega, h.done, h.k.mono hn⟩
theorem AgB.ok {m : AgentM} {n : Nat} (h : AgB m n) (hn : n ≤ 80000) : AgentOk m := ⟨h.c, h.l, fun x hx => by have := h.b x hx; unfold BuckN at this; unfold BuckOk; omega, h.done, Nat.le_trans h.k.small hn⟩
theorem AgB.sp {m : AgentM} {n : Nat} (h : AgB m n) (hn : n ≤ 80000) (t : Int) : ((get m.k.P.m t []).length : Int) ≤ 100000 := by have := h.k.sp t; omega
theorem AgB.span {m : AgentM} {n : Nat} (h : AgB m n) (t : Int) (s : ByteArray) : AgB { m with k := (m.k.write t s).2.2 } (n + 1) := ⟨h.c, h.l, (h.mono (Nat.le_succ n)).b, h.done, h.k.kwrite t s⟩
theorem AgB.crumb {m : AgentM} {n : Nat} (h : AgB m n) (t o : Int) : AgB (m.crumb t o).2 n := by
  unfold AgentM.crumb
  split
  · exact h
  · split
    · exact h
    · exact ⟨h.c.add t o, h.l, h.b, h.done, h.k⟩
theorem AgB.trigger {m : AgentM} {n : Nat} (h : AgB m n) (t c : Int) : AgB (m.trigger t c).2 (n + 1) := by
  unfold AgentM.trigger
  split
  · exact h.mono (Nat.le_succ n)
  · split
    · exact h.mono (Nat.le_succ n)
    · next b hb =>
      split
      · refine ⟨h.c, h.l, fun x hx => ?_, h.done, h.k.mono (Nat.le_succ n)⟩
        rcases List.mem_or_eq_of_mem_set hx with hx | rfl
        · exact (h.mono (Nat.le_succ n)).b x hx
        · exact (h.b b (List.mem_of_getElem? hb)).take
      · exact h.mono (Nat.le_succ n)
theorem KeepN.unpin {m : KeepM} {n : Nat} (h : KeepN m n) (t : Int) : KeepN (m.unpin t) n := ⟨h.small, h.sp, h.srt⟩
theorem KeepN.unpins {n : Nat} : ∀ (l : List Int) {m : KeepM}, KeepN m n → KeepN (l.foldl KeepM.unpin m) n
  | [], _, h => h
  | t :: l, _, h => KeepN.unpins l (h.unpin t)
theorem AgB.tick {m : AgentM} {n : Nat} (h : AgB m n) : AgB m.tick n :=
  ⟨h.c, h.l.tick, fun x hx => by obtain ⟨y, hy, rfl⟩ := List.mem_map.1 hx; exact (h.b y hy).tick, h.done, h.k.unpins _⟩
theorem within_iff {n lo hi : Int} : within n lo hi = true ↔ lo ≤ n ∧ n ≤ hi := by simp [within]
theorem AgB.hear {m : AgentM} {n : Nat} (h : AgB m n) (q : MsgM) : AgB (m.hear q).2 n := by
  unfold AgentM.hear
  split
  · next hr =>
    cases q with
    | pin t j =>
      simp only [MsgM.right, Bool.and_eq_true, within_iff] at hr
      simp only [AgentM.act, AgentM.pin]
      split
      · exact h
      · split
        · exact h
        · exact ⟨h.c, h.l.grant hr.1 hr.2, h.b, h.done, h.k.small, h.k.sp, h.k.srt⟩
    | unpin t j =>
      simp only [MsgM.right, Bool.and_eq_true, within_iff] at hr
      have hd : ∀ k, 0 ≤ setF m.done t (max (m.done t) j) k ∧ setF m.done t (max (m.done t) j) k ≤ 1073741824 := fun k => by
        have h1 := h.done t; have h2 := h.done k
        simp only [setF]; split <;> omega
      simp only [AgentM.act, AgentM.unpin]
      split
      · exact ⟨h.c.drop t, h.l.fin t, h.b, hd, h.k.drop t _ _⟩
      · exact ⟨h.c, h.l, h.b, hd, h.k⟩
    | _ => exact h
  · exact h
theorem AgB.new (c : CfgM) (h1 : 1 ≤ c.agents ∧ c.agents ≤ 4) (h4 : 1 ≤ c.lease ∧ c.lease ≤ 1000) (h5 : 0 ≤ c.burst ∧ 0 ≤ c.rate ∧ c.burst ≤ 1000 ∧ c.rate ≤ 1000) (id : Int) : AgB (AgentM.new id c) 0 :=
  ⟨⟨h1, fun _ => by simp [AgentM.new], fun _ x hx => by simp [AgentM.new] at hx⟩, ⟨h4, fun x hx => by simp [AgentM.new] at hx, fun _ => ⟨Int.le_refl 0, by show (0 : Int) ≤ 1073741824; decide⟩⟩, fun x hx => by
    simp [AgentM.new] at hx; subst hx; refine ⟨h5.1, h5.2.2.1, h5.2.1, h5.2.2.2, h5.1, h5.2.2.1, Int.le_refl _, Int.le_refl _⟩, fun _ => ⟨Int.le_refl 0, by show (0 : Int) ≤ 1073741824; decide⟩, Nat.le_refl _, fun _ => Nat.le_refl _, List.Pairwise.nil⟩
end Go.Proofs.YtkjggglmemafgaaGreat
