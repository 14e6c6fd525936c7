import Derived.Test.YtkjggglmemafgaaGreatAgentE
import Derived.Test.YtkjggglmemafgaaGreatAgentC
namespace Go.Proofs.YtkjggglmemafgaaGreat
open Go Go.RowKit
set_option linter.unusedVariables false
set_option linter.unusedSimpArgs false
set_option maxRecDepth 20000

section
variable {w0 w : World} {R : List Asn} {a : Nat} {m : AgentM}
def AgentM.act (m : AgentM) : MsgM → (List MsgM × List MsgM) × AgentM
  | .pin t j => (((m.pin t j).1, []), (m.pin t j).2)
  | .collect t j => (m.collect t j, m)
  | .unpin t j => (([.unpinned m.id t j], []), m.unpin t j)
  | _ => (([], []), m)
def AgentM.hear (m : AgentM) (q : MsgM) : (List MsgM × List MsgM) × AgentM := if q.right = true then m.act q else (([], []), m)
theorem St.fr2 {A : Asn} (h : St w0 (A :: R) w) {w' : World} (hf : Fr (fun _ => False) w w') : St w0 (A :: R) w' := h.fr hf
theorem agent_hear_not (mv : Value) (h : St w0 (agentA a m :: R) w) {b : Bool} (hb : b = false) (H : Calls Tryz.prog 48 #[mv] w (RetB b w)) : Calls Tryz.prog 14 #[.pointer (some ⟨a,0,none⟩), mv] w (CollectS w0 (agentA a m :: R) [] []) := by
  subst hb
  go_enter Tryz.func14, Tryz.ntmps14
  go_wp2_with (go_at_call 48; refine H.mono ?_; rintro e w1 ⟨rfl, hF⟩)
  exact bodyPost_ret (v := .tuple #[.slice none 0 0, .slice none 0 0]) (by simp [results, Tryz.results14, go_sem]) rfl ⟨_, _, rfl, ((h.fr hF).msgsNil).msgsNil⟩
theorem agent_hear_other (K : Nat) (x : Value) (h : St w0 (agentA a m :: R) w) (k1 : K ≠ 48) (k2 : K ≠ 99) (k3 : K ≠ 49) {b : Bool} (hb : b = true) (H : Calls Tryz.prog 48 #[.iface K x] w (RetB b w)) : Calls Tryz.prog 14 #[.pointer (some ⟨a,0,none⟩), .iface K x] w (CollectS w0 (agentA a m :: R) [] []) := by
  subst hb
  go_enter Tryz.func14, Tryz.ntmps14
  go_wp2_with (go_at_call 48; refine H.mono ?_; rintro e w1 ⟨rfl, hF⟩)
  exact bodyPost_ret (v := .tuple #[.slice none 0 0, .slice none 0 0]) (by simp [results, Tryz.results14, go_sem]) rfl ⟨_, _, rfl, ((h.fr hF).msgsNil).msgsNil⟩
theorem agent_hear_pin (t j : Int) (h : St w0 (agentA a m :: R) w) (hok : AgentOk m) {b : Bool} (hb : b = true) (H : Calls Tryz.prog 48 #[.iface 48 (.agg #[.int .i64 t, .int .i64 j])] w (RetB b w)) : Calls Tryz.prog 14 #[.pointer (some ⟨a,0,none⟩), .iface 48 (.agg #[.int .i64 t, .int .i64 j])] w (CollectS w0 (agentA a (m.pin t j).2 :: R) (m.pin t j).1 []) := by
  subst hb
  go_enter Tryz.func14, Tryz.ntmps14
  go_wp2_with (go_at_call 48; refine H.mono ?_; rintro e w1 ⟨rfl, hF⟩)
  have h1 := h.fr hF
  have h4 := h1.alloc [.int .i64 t, .int .i64 j] 48 rfl
  refine (agent_pin h4.drop hok t j).mono ?_
  rintro e w2 ⟨v, rfl, h5⟩
  go_wp2
  exact bodyPost_ret (v := .tuple #[v, .slice none 0 0]) (by simp [results, Tryz.results14, go_sem]) rfl ⟨_, _, rfl, (h5.msgsNil).at 1⟩
theorem agent_hear_collect (t j : Int) (h : St w0 (agentA a m :: R) w) (hsp : ((get m.k.P.m t []).length : Int) ≤ 100000) {b : Bool} (hb : b = true) (H : Calls Tryz.prog 48 #[.iface 99 (.agg #[.int .i64 t, .int .i64 j])] w (RetB b w)) : Calls Tryz.prog 14 #[.pointer (some ⟨a,0,none⟩), .iface 99 (.agg #[.int .i64 t, .int .i64 j])] w (CollectS w0 (agentA a m :: R) (m.collect t j).1 (m.collect t j).2) := by
  subst hb
  go_enter Tryz.func14, Tryz.ntmps14
  go_wp2_with (go_at_call 48; refine H.mono ?_; rintro e w1 ⟨rfl, hF⟩)
  have h1 := h.fr hF
  have h4 := h1.alloc [.int .i64 t, .int .i64 j] 99 rfl
  refine (agent_collect h4.drop t j hsp).mono ?_
  rintro e w2 ⟨v, u, rfl, h5⟩
  go_wp2
  exact bodyPost_ret (v := .tuple #[v, u]) (by simp [results, Tryz.results14, go_sem]) rfl ⟨_, _, rfl, h5⟩
theorem agent_hear_unpin (t j : Int) (h : St w0 (agentA a m :: R) w) (hok : AgentOk m) {b : Bool} (hb : b = true) (H : Calls Tryz.prog 48 #[.iface 49 (.agg #[.int .i64 t, .int .i64 j])] w (RetB b w)) : Calls Tryz.prog 14 #[.pointer (some ⟨a,0,none⟩), .iface 49 (.agg #[.int .i64 t, .int .i64 j])] w (CollectS w0 (agentA a (m.unpin t j) :: R) [.unpinned m.id t j] []) := by
  subst hb
  go_enter Tryz.func14, Tryz.ntmps14
  go_wp2_with (go_at_call 48; refine H.mono ?_; rintro e w1 ⟨rfl, hF⟩)
  have h1 := h.fr hF
  have h4 := h1.alloc [.int .i64 t, .int .i64 j] 49 rfl
  refine (agent_unpin h4.drop hok t j).mono ?_
  rintro e w2 ⟨v, rfl, h5⟩
  go_wp2
  exact bodyPost_ret (v := .tuple #[v, .slice none 0 0]) (by simp [results, Tryz.results14, go_sem]) rfl ⟨_, _, rfl, (h5.msgsNil).at 1⟩
theorem agent_hear {mv : Value} {q : MsgM} (h : St w0 (agentA a m :: msgA mv q :: R) w) (hok : AgentOk m) (hsp : ∀ t, ((get m.k.P.m t []).length : Int) ≤ 100000) (hfit : q.fits) : Calls Tryz.prog 14 #[.pointer (some ⟨a,0,none⟩), mv] w (CollectS w0 (agentA a (m.hear q).2 :: msgA mv q :: R) (m.hear q).1.1 (m.hear q).1.2) := by
  obtain ⟨F, hq, hF⟩ := (h.at 1).hd
  have H := msg_right F w mv q hq hF hfit
  cases hr : q.right
  · have e : m.hear q = (([], []), m) := by rw [AgentM.hear, if_neg (by rw [hr]; decide)]
    rw [e]
    exact agent_hear_not mv h hr H
  · rw [AgentM.hear, if_pos hr]
    cases q with
    | pin t j => obtain rfl := hq; exact agent_hear_pin t j h hok hr H
    | collect t j => obtain rfl := hq; exact agent_hear_collect t j h (hsp t) hr H
    | unpin t j => obtain rfl := hq; exact agent_hear_unpin t j h hok hr H
    | none => cases hr
    | pinned p => obtain ⟨cv, rfl, -⟩ := hq; exact agent_hear_other _ _ h (by decide) (by decide) (by decide) hr H
    | chunk _ _ _ _ _ _ => obtain ⟨cv, rfl, -⟩ := hq; exact agent_hear_other _ _ h (by decide) (by decide) (by decide) hr H
    | manifest _ _ _ _ => obtain ⟨cv, rfl, -⟩ := hq; exact agent_hear_other _ _ h (by decide) (by decide) (by decide) hr H
    | trigger _ _ _ => obtain rfl := hq; exact agent_hear_other _ _ h (by decide) (by decide) (by decide) hr H
    | gone _ _ _ => obtain rfl := hq; exact agent_hear_other _ _ h (by decide) (by decide) (by decide) hr H
    | stored _ _ => obtain rfl := hq; exact agent_hear_other _ _ h (by decide) (by decide) (by decide) hr H
    | unpinned _ _ _ => obtain rfl := hq; exact agent_hear_other _ _ h (by decide) (by decide) (by decide) hr H
end
end Go.Proofs.YtkjggglmemafgaaGreat
