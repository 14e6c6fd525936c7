import Derived.Test.YtkjggglmemafgaaGreatAgent
import Derived.Deep.LoopGhost
namespace Go.Proofs.YtkjggglmemafgaaGreat
open Go Go.RowKit
set_option linter.unusedVariables false
set_option linter.unusedSimpArgs false
set_option maxRecDepth 20000

section
variable {w0 w : World} {R : List Asn} {a : Nat} {m : AgentM}
def blT (bl : List (Nat × BuckM)) (k : Nat) : List (Nat × BuckM) := (bl.take k).map (fun y => (y.1, y.2.tick)) ++ bl.drop k
theorem blT_get {bl : List (Nat × BuckM)} {k : Nat} {y : Nat × BuckM} (h : bl[k]? = some y) : (blT bl k)[k]? = some y := by
  obtain ⟨hk, -⟩ := List.getElem?_eq_some_iff.1 h
  unfold blT; rw [List.getElem?_append_right (by simp; omega)]
  simp only [List.length_map, List.length_take, Nat.min_eq_left (Nat.le_of_lt hk), Nat.sub_self, List.getElem?_drop, Nat.add_zero]; exact h
theorem blT_succ {bl : List (Nat × BuckM)} {k : Nat} {y : Nat × BuckM} (h : bl[k]? = some y) : (blT bl k).set k (y.1, y.2.tick) = blT bl (k + 1) := by
  obtain ⟨hk, -⟩ := List.getElem?_eq_some_iff.1 h
  unfold blT
  rw [List.set_append, if_neg (by simp; omega), List.take_add_one, h]
  simp only [List.length_map, List.length_take, Nat.min_eq_left (Nat.le_of_lt hk), Nat.sub_self]
  rw [drop_consM h]; simp
theorem blT_len (bl : List (Nat × BuckM)) (k : Nat) (h : k ≤ bl.length) : (blT bl k).length = bl.length := by unfold blT; simp; omega
theorem blT_ptr (bl : List (Nat × BuckM)) (k : Nat) : (blT bl k).map (fun y => Value.pointer (some ⟨y.1, 0, none⟩)) = bl.map (fun y => Value.pointer (some ⟨y.1, 0, none⟩)) := by
  unfold blT; rw [List.map_append, List.map_map]
  conv => rhs; rw [← List.take_append_drop k bl, List.map_append]
  rfl
def KeepM.unpin (m : KeepM) (t : Int) : KeepM := { m with pins := setT m.pins t false }
def AgentM.tick (m : AgentM) : AgentM := { m with b := m.b.map BuckM.tick, l := m.l.tick, k := m.l.gone.foldl KeepM.unpin m.k }
set_option maxHeartbeats 1000000 in
theorem agent_tick (h : St w0 (agentA a m :: R) w) (hok : AgentOk m) : Calls Tryz.prog 21 #[.pointer (some ⟨a,0,none⟩)] w (IntsS w0 (agentA a m.tick :: R) m.l.gone) := by
  obtain ⟨x, hE, h1⟩ := agent_open h
  have c4 := h1.blk.get (i := 4) rfl
  have hbl4 : ((blT x.bl 4).map (·.2)) = m.b.map BuckM.tick := by
    unfold blT; rw [List.take_of_length_le (by rw [hE.n]; omega), List.drop_eq_nil_of_le (by rw [hE.n]; omega), List.append_nil, ← hE.b]; simp
  have HB4 : Hid _ := hbl4
  clear hbl4
  go_enter Tryz.func21, Tryz.ntmps21
  go_wp2
  go_loopw [15] (fun i wr => ∃ k : Nat, k ≤ 4 ∧ i = .int .i64 k ∧ St w0 (agentL a m { x with bl := blT x.bl k } ++ R) wr) (fun i _ => 4 - (intOf i).toNat)
  case atStart => exact ⟨0, by omega, rfl, by simpa [blT] using h1⟩
  case round =>
    obtain ⟨k, hk, rfl, hS⟩ := hrel
    have hk0 : (0 : Int) ≤ (k : Int) := by omega
    by_cases hlt : k < 4
    · have hlt' : (k : Int) < 4 := by omega
      obtain ⟨⟨bb, bm⟩, hx⟩ : ∃ y, x.bl[k]? = some y := ⟨x.bl[k]'(by rw [hE.n]; exact hlt), List.getElem?_eq_getElem _⟩
      have hmb : m.b[k]? = some bm := by rw [← hE.b, List.getElem?_map, hx]; rfl
      have hbo := hok.b bm (List.mem_of_getElem? hmb)
      have hcell := (hS.at 4).sl.cells rfl k (.pointer (some ⟨bb, 0, none⟩)) (by simp only [blT_ptr]; rw [List.getElem?_map, hx]; rfl)
      have h4 : St w0 (buckA bb bm :: _) _ := (hS.at 5).pickAt (blT_get hx)
      have H1 := buckS_tick h4 hbo
      have HX : Hid _ := hx
      clear hx hmb
      go_wp2_with fail
      refine H1.mono ?_
      rintro e w1 ⟨rfl, h5⟩
      have h6 := St.unpickAt (f := buck2A) (y := (bb, bm.tick)) h5 (by rw [blT_len _ _ (by rw [hE.n]; exact hk), hE.n]; exact hlt)
      have hbs := blT_succ HX.out
      simp only [] at hbs
      rw [hbs] at h6
      clear hbs
      have h7 : St w0 (agentL a m { x with bl := blT x.bl (k + 1) } ++ R) w1 := by
        have := h6.back 5
        simp only [agentL, blT_ptr] at this ⊢
        exact this
      go_wp2
      go_roundw
      case rel => exact ⟨k + 1, by omega, by go_num, h7⟩
      case measure => simp [intOf]; omega
    · obtain rfl : k = 4 := by omega
      have c3 := hS.blk.get (i := 3) rfl
      have H1 := leaseS_tick (hS.at 3) hok.l
      go_wp2_with fail
      refine H1.mono ?_
      rintro e w1 ⟨v, rfl, h2, hn⟩
      have hmx : (m.l.gone.length : Int) ≤ 9223372036854775807 := by
        rcases h2.sl.shape with ⟨-, h0⟩ | ⟨g, off, cap, -, -, hc, hm⟩
        · omega
        · unfold maxLen at hm; omega
      obtain ⟨va, vc, rfl⟩ := h2.sl.lit
      have HN : Hid _ := hn
      clear hn
      have h3 : St w0 (intsA (.slice va m.l.gone.length vc) m.l.gone :: agentL a { m with l := m.l.tick } { x with bl := blT x.bl 4 } ++ R) w1 := (h2.at 1).back 4 |>.at 0
      go_wp2
      go_loopw [29] (fun i wr => ∃ k : Nat, k ≤ m.l.gone.length ∧ i = .int .i64 k ∧ St w0 (intsA (.slice va m.l.gone.length vc) m.l.gone :: agentL a { m with l := m.l.tick, k := (m.l.gone.take k).foldl KeepM.unpin m.k } { x with bl := blT x.bl 4 } ++ R) wr) (fun i _ => m.l.gone.length - (intOf i).toNat)
      case atStart => exact ⟨0, by omega, rfl, by simpa using h3⟩
      case round =>
        obtain ⟨k, hk, rfl, hS⟩ := hrel
        have hk0 : (0 : Int) ≤ (k : Int) := by omega
        by_cases hlt : k < m.l.gone.length
        · have hlt' : (k : Int) < (m.l.gone.length : Int) := by omega
          obtain ⟨t, ht⟩ : ∃ y, m.l.gone[k]? = some y := ⟨m.l.gone[k], List.getElem?_eq_getElem _⟩
          obtain ⟨g, off, cap, hv, -⟩ := hS.sl.form (by omega)
          cases hv
          have hcell := hS.sl.cells rfl k (.int .i64 t) (by rw [List.getElem?_map, ht]; rfl)
          have c1 := (hS.at 1).blk.get (i := 1) rfl
          have H1 := keepS_unpin (hS.at 2) t
          have HX : Hid _ := ht
          clear ht
          go_wp2_with fail
          refine H1.mono ?_
          rintro e w1 ⟨rfl, h5⟩
          have h6 := h5.back 2
          go_wp2
          go_roundw
          case rel => exact ⟨k + 1, by omega, by go_num, by rw [List.take_add_one, HX.out, Option.toList_some, List.foldl_append]; exact h6⟩
          case measure => simp [intOf]; omega
        · obtain rfl : k = m.l.gone.length := by omega
          have hlt' : ¬ (m.l.gone.length : Int) < (m.l.gone.length : Int) := by omega
          rw [List.take_of_length_le (Nat.le_refl _)] at hS
          go_wp2
          go_ret
          refine ⟨_, rfl, ?_, HN.out⟩
          refine (agent_shut (m := m.tick) (x := { x with bl := blT x.bl 4 }) ⟨HB4.out, ?_, hE.cap, hE.done⟩ (hS.back 7)).at 1
          rw [blT_len _ _ (by rw [hE.n]; omega)]; exact hE.n

/-! ### messages that go -/
def MsgsR (F : Nat → Prop) (w : World) (v : Value) (ms : List MsgM) : Prop :=
  ∃ vs : List Value, vs.length = ms.length ∧ Rs F w v ms.length vs ∧ ∀ (i : Nat) (u : Value) (q : MsgM), vs[i]? = some u → ms[i]? = some q → MsgR F w u q
theorem MsgsR.fr {F S : Nat → Prop} {w w' : World} {v : Value} {ms : List MsgM} (h : MsgsR F w v ms) (hf : Fr S w w') (hs : ∀ k, F k → ¬ S k) : MsgsR F w' v ms := by
  obtain ⟨vs, h1, h2, h3⟩ := h
  exact ⟨vs, h1, h2.fr hf hs, fun i u q hu hq => (h3 i u q hu hq).fr hf hs⟩
def msgsA (v : Value) (ms : List MsgM) : Asn := ⟨fun F w => MsgsR F w v ms ∧ Bd F w, fun h => h.2, fun h hf hs => ⟨h.1.fr hf hs, h.2.fr hf⟩⟩
def MsgsS (w0 : World) (R : List Asn) (ms : List MsgM) (e : Ending) (w' : World) : Prop := ∃ v, e = .returned v ∧ St w0 (msgsA v ms :: R) w'
theorem St.msgsNil (h : St w0 R w) : St w0 (msgsA (.slice none 0 0) [] :: R) w :=
  h.new (Fr.refl _ w) ⟨⟨[], rfl, Rs.nil _ _, fun i u q hu => by simp at hu⟩, fun k hk => hk.2⟩
theorem St.msgsOne {B : Nat} {u : Value} {q : MsgM} (h : St w0 (blkA B 45 [u] :: R) w) (hq : ∀ F w, MsgR F w u q) : St w0 (msgsA (.slice (some ⟨B, 0, none⟩) 1 1) [q] :: R) w :=
  h.head fun F hF => ⟨⟨[u], rfl, ⟨⟨_, _, rfl, Nat.le_refl _, fun h => by cases h⟩, fun _ => ⟨B, 0, 1, rfl, hF.2.1, Nat.le_refl _⟩, fun hv j z hz => by cases hv; rw [Nat.zero_add]; exact hF.1.get hz⟩, fun i z y hz hy => by
    cases i with
    | zero => simp at hz hy; subst hz hy; exact hq F _
    | succ i => simp at hz⟩, hF.2.2⟩
theorem agent_gone (h : St w0 (agentA a m :: R) w) (t j : Int) : Calls Tryz.prog 98 #[.pointer (some ⟨a,0,none⟩), .int .i64 t, .int .i64 j] w (MsgsS w0 (agentA a m :: R) [.gone m.id t j]) := by
  obtain ⟨x, hE, h1⟩ := agent_open h
  have c0 := h1.blk.get (i := 0) rfl
  have h2 := h.alloc [.iface 139 (.agg #[.int .i64 m.id, .int .i64 t, .int .i64 j])] 45 rfl
  go_enter Tryz.func98, Tryz.ntmps98
  go_wp2
  go_ret
  exact ⟨_, rfl, h2.msgsOne (fun _ _ => rfl)⟩
end
end Go.Proofs.YtkjggglmemafgaaGreat
