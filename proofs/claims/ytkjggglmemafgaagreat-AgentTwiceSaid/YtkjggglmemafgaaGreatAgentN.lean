import Derived.Test.YtkjggglmemafgaaGreatAgent
import Derived.Deep.RegionHeld3
namespace Go.Proofs.YtkjggglmemafgaaGreat
open Go Go.RowKit
set_option linter.unusedVariables false
set_option linter.unusedSimpArgs false
set_option maxRecDepth 20000

section
variable {w0 w : World} {R : List Asn}
theorem el_buck : El Tryz.prog 105 112 1 8 := El.mk' (z := .pointer none) (by kernel_rfl) (by kernel_rfl) rfl (by decide)
structure CfgM where
  agents : Int
  buffers : Int
  lease : Int
  jobs : Int
  seed : Int
  burst : Int
  rate : Int
def CfgM.V (c : CfgM) : List Value := [.int .i64 c.agents, .int .i64 c.buffers, .int .i64 c.lease, .int .i64 c.jobs, .int .u64 c.seed, .int .i64 c.burst, .int .i64 c.rate]
def AgentM.new (id : Int) (c : CfgM) : AgentM := ⟨id, ⟨⟨c.buffers.toNat, []⟩, c.seed, fun _ => false, fun _ => false, []⟩, ⟨c.agents, fun _ => []⟩, ⟨c.lease, [], fun _ => 0⟩, List.replicate 4 ⟨c.burst, c.rate, c.burst, 0⟩, fun _ => 0⟩
theorem agent_new_id (h : St w0 R w) (id : Int) (c : CfgM) (h1 : 1 ≤ c.agents ∧ c.agents ≤ 4) (hid : ¬ (0 ≤ id ∧ id < c.agents)) :
    Calls Tryz.prog 10 #[.int .i64 id, .agg #[.int .i64 c.agents, .int .i64 c.buffers, .int .i64 c.lease, .int .i64 c.jobs, .int .u64 c.seed, .int .i64 c.burst, .int .i64 c.rate]] w (fun e w' => e = .returned (.tuple #[.pointer none, .int .i64 1]) ∧ St w0 R w') := by
  have h2 := h.alloc c.V 32 rfl
  have b0 := h2.blk.get (i := 0) rfl
  have bl := h2.blk.lt
  have H1 := crumbS_new h2 c.agents h1
  by_cases hi : id < 0
  all_goals
    go_enter Tryz.func10, Tryz.ntmps10
    go_wp2_with fail
    refine H1.mono ?_
    rintro e w1 ⟨cb, rfl, h3⟩
    have b0 := (h3.at 1).blk.get (i := 0) rfl
    have h4 := (h3.allocMap rfl).alloc [.int .i64 id, .pointer none, .pointer (some ⟨cb, 0, none⟩), .pointer none, .slice none 0 0, .map (some w1.heap.size)] 107 (B := w1.heap.size + 1)
    have a2 := h4.blk.get (i := 2) rfl
    have e0 := (h4.at 3).blk.get (i := 0) rfl
    go_wp2
    exact bodyPost_ret (v := .tuple #[.pointer none, .int .i64 1]) (by simp [results, Tryz.results10, go_sem]) rfl ⟨rfl, (((h4.at 3).drop).drop).drop.drop⟩
set_option maxHeartbeats 1000000 in
theorem agent_new (h : St w0 R w) (id : Int) (c : CfgM) (h1 : 1 ≤ c.agents ∧ c.agents ≤ 4) (hid : 0 ≤ id ∧ id < c.agents) (h3' : 1 ≤ c.buffers ∧ c.buffers ≤ 16) (h4' : 1 ≤ c.lease ∧ c.lease ≤ 1000) (h5' : 0 ≤ c.burst ∧ 0 ≤ c.rate ∧ c.burst ≤ 1000 ∧ c.rate ≤ 1000) :
    Calls Tryz.prog 10 #[.int .i64 id, .agg #[.int .i64 c.agents, .int .i64 c.buffers, .int .i64 c.lease, .int .i64 c.jobs, .int .u64 c.seed, .int .i64 c.burst, .int .i64 c.rate]] w (fun e w' => ∃ a, e = .returned (.tuple #[.pointer (some ⟨a, 0, none⟩), .int .i64 0]) ∧ St w0 (agentA a (AgentM.new id c) :: R) w') := by
  have h2 := h.alloc c.V 32 rfl
  have b0 := h2.blk.get (i := 0) rfl
  have bl := h2.blk.lt
  have H1 := crumbS_new h2 c.agents h1
  have i1 := hid.1
  have i2 := hid.2
  go_enter Tryz.func10, Tryz.ntmps10
  go_wp2_with fail
  refine H1.mono ?_
  rintro e w1 ⟨cb, rfl, h3⟩
  have b0 := (h3.at 1).blk.get (i := 0) rfl
  have h4 := (h3.allocMap rfl).alloc [.int .i64 id, .pointer none, .pointer (some ⟨cb, 0, none⟩), .pointer none, .slice none 0 0, .map (some w1.heap.size)] 107 (B := w1.heap.size + 1)
  have a2 := h4.blk.get (i := 2) rfl
  have e0 := (h4.at 3).blk.get (i := 0) rfl
  have e1 := (h4.at 3).blk.get (i := 1) rfl
  have e4 := (h4.at 3).blk.get (i := 4) rfl
  go_wp2_with fail
  refine (keepS_new h4 c.buffers c.seed).mono ?_
  rintro e w2 (⟨-, kb, rfl, h5⟩ | ⟨hn, -⟩)
  rotate_left
  · exact absurd h3' hn
  obtain ⟨B, hB⟩ : ∃ B, B = w1.heap.size + 1 := ⟨_, rfl⟩
  rw [← hB] at h5 ⊢
  clear b0 bl H1 h2 h3 h4 a2 e0 e1 e4 hB
  have f1 := (h5.at 1).blk.frozen 1
  have a1 := (h5.at 1).blk.get (i := 1) rfl
  have h6 := (h5.at 1).set 1 (.pointer (some ⟨kb, 0, none⟩))
  have e2 := (h6.at 4).blk.get (i := 2) rfl
  go_wp2_with fail
  refine (leaseS_new h6 c.lease).mono ?_
  rintro e w3 (⟨-, lb, rfl, h7⟩ | ⟨hn, -⟩)
  rotate_left
  · exact absurd h4' hn
  clear f1 a1 h5 e2 h6
  have f3 := (h7.at 1).blk.frozen 3
  have a3 := (h7.at 1).blk.get (i := 3) rfl
  have h8 := (h7.at 1).set 3 (.pointer (some ⟨lb, 0, none⟩))
  have h9 := (h8.bigNil buck2A).slNil 112 1
  go_wp2
  clear f3 a3 h7 h8
  go_loopw [59] (fun i wr => ∃ k : Nat, k ≤ 4 ∧ i = .int .i64 k ∧ ∃ bv bl, bl.map (·.2) = List.replicate k ⟨c.burst, c.rate, c.burst, 0⟩ ∧ St w0 (slA 112 1 bv k (bl.map fun y : Nat × BuckM => .pointer (some ⟨y.1, 0, none⟩)) :: bigA buck2A bl :: blkA B 107 [.int .i64 id, .pointer (some ⟨kb, 0, none⟩), .pointer (some ⟨cb, 0, none⟩), .pointer (some ⟨lb, 0, none⟩), bv, .map (some w1.heap.size)] :: leaseA lb ⟨c.lease, [], fun _ => 0⟩ :: keepA kb ⟨⟨c.buffers.toNat, []⟩, c.seed, fun _ => false, fun _ => false, []⟩ :: mapA w1.heap.size [] :: crumbA cb ⟨c.agents, fun _ => []⟩ :: blkA w.heap.size 32 c.V :: R) wr) (fun i _ => 4 - (intOf i).toNat)
  case atStart => exact ⟨0, by omega, rfl, .slice none 0 0, [], rfl, h9⟩
  case round =>
    obtain ⟨k, hk, rfl, bv, bl, hbl, hS⟩ := hrel
    have hk0 : (0 : Int) ≤ (k : Int) := by omega
    by_cases hlt : k < 4
    · have hlt' : (k : Int) < 4 := by omega
      obtain ⟨va, vc, rfl⟩ := hS.sl.lit
      have e5 := (hS.at 7).blk.get (i := 5) rfl
      have e6 := (hS.at 7).blk.get (i := 6) rfl
      go_wp2_with fail
      refine (buckS_new hS c.burst c.rate).mono ?_
      rintro e w4 (⟨-, ub, rfl, h5⟩ | ⟨hn, -⟩)
      rotate_left
      · exact absurd h5' hn
      clear e5 e6
      have a4 := (h5.at 3).blk.get (i := 4) rfl
      have f4 := (h5.at 3).blk.frozen 4
      have hB := (h5.at 3).blk.lt
      have S2 := h5.at 1
      go_wp2_with (at_builtin; refine wpList_append_sl _ rfl _ _ _ rfl el_buck (v := .slice va k vc) rfl (S2.skip _).sl rfl (by exact rd_one _ _ _ (by simp)) (by rfl) (by simp [Value.oneCell']) (by omega) (by omega) ?_; intro v' w6 hs6 hg6 hb6 hn6; clear hn6; obtain ⟨v6a, v6c, rfl⟩ := hs6.lit; have s6 := (S2.skip _).append hs6 hg6 hb6; have a4 := (s6.at 3).blk.get (i := 4) rfl; have f4 := (s6.at 3).blk.frozen 4)
      go_roundw
      case rel =>
        refine ⟨k + 1, by omega, by go_num, .slice v6a (k + 1) v6c, bl ++ [(ub, ⟨c.burst, c.rate, c.burst, 0⟩)], by rw [List.map_append, hbl, List.replicate_succ']; rfl, ?_⟩
        rw [List.map_append]
        have s7 := St.bigSnoc (f := buck2A) (x := (ub, ⟨c.burst, c.rate, c.burst, 0⟩)) (s6.back 2)
        exact (((s7.at 2).set 4 (.slice v6a (k + 1) v6c)).back 2).at 1
      case measure => simp [intOf]; omega
    · obtain rfl : k = 4 := by omega
      go_wp2
      obtain ⟨g, off, cap, rfl, -, hc, -⟩ := hS.sl.form (by omega)
      have hlen : bl.length = 4 := by have := congrArg List.length hbl; simpa using this
      refine bodyPost_ret (v := .tuple #[.pointer (some ⟨B, 0, none⟩), .int .i64 0]) (by simp [results, Tryz.results10, go_sem]) rfl ⟨B, rfl, ?_⟩
      refine agent_shut (m := AgentM.new id c) (x := ⟨kb, cb, lb, w1.heap.size, g, off, cap, bl, []⟩) ⟨hbl, hlen, hc, fun t => rfl⟩ ?_
      exact ((((((((hS.at 7).drop.at 5).at 2).at 2).at 4).at 6).at 6).at 6)
end
end Go.Proofs.YtkjggglmemafgaaGreat
