import Derived.Test.YtkjggglmemafgaaGreatAwakeS
import Derived.Test.YtkjggglmemafgaaGreatLawN
import Derived.Test.YtkjggglmemafgaaGreatLawL
namespace Go.Proofs.YtkjggglmemafgaaGreat
open Go Go.RowKit
set_option linter.unusedVariables false
set_option linter.unusedSimpArgs false
set_option maxRecDepth 1000000

theorem ag0_w1 : (ag0.k.write 7 txX).1 = ⟨7, 1, txX⟩ := by rfl
theorem ag0_w2 : (ag0.k.write 7 txX).2.1 = 0 := by rfl
theorem ag4_w1 : (ag4.k.write 7 txY).1 = zSp := by rfl
theorem ag4_w2 : (ag4.k.write 7 txY).2.1 = 12 := by rfl
section
variable {w0 w : World} {R : List Asn} {a : Nat}
theorem St.msg0 (h : St w0 R w) (q : MsgM) (v : Value) (hq : MsgR (fun _ => False) w v q) : St w0 (msgA v q :: R) w :=
  h.new (Fr.refl _ w) ⟨hq.mono (fun _ h => h.elim), fun k hk => hk.2⟩
theorem hear_pin {m : AgentM} {n : Nat} (h : St w0 (agentA a m :: R) w) (hb : AgB m n) (hn : n ≤ 80000) (t j : Int) : Calls Tryz.prog 14 #[.pointer (some ⟨a,0,none⟩), .iface 48 (.agg #[.int .i64 t, .int .i64 j])] w (CollectS w0 (agentA a (m.hear (.pin t j)).2 :: R) (m.hear (.pin t j)).1.1 (m.hear (.pin t j)).1.2) :=
  (agent_hear ((h.msg0 (.pin t j) _ rfl).at 1) (hb.ok hn) (fun t => hb.sp hn t) trivial).mono fun _ _ ⟨v, u, he, hS⟩ => ⟨v, u, he, ((hS.at 3).drop)⟩
theorem hear_collect {m : AgentM} {n : Nat} (h : St w0 (agentA a m :: R) w) (hb : AgB m n) (hn : n ≤ 80000) (t j : Int) : Calls Tryz.prog 14 #[.pointer (some ⟨a,0,none⟩), .iface 99 (.agg #[.int .i64 t, .int .i64 j])] w (CollectS w0 (agentA a (m.hear (.collect t j)).2 :: R) (m.hear (.collect t j)).1.1 (m.hear (.collect t j)).1.2) :=
  (agent_hear ((h.msg0 (.collect t j) _ rfl).at 1) (hb.ok hn) (fun t => hb.sp hn t) trivial).mono fun _ _ ⟨v, u, he, hS⟩ => ⟨v, u, he, ((hS.at 3).drop)⟩
theorem hear_unpin {m : AgentM} {n : Nat} (h : St w0 (agentA a m :: R) w) (hb : AgB m n) (hn : n ≤ 80000) (t j : Int) : Calls Tryz.prog 14 #[.pointer (some ⟨a,0,none⟩), .iface 49 (.agg #[.int .i64 t, .int .i64 j])] w (CollectS w0 (agentA a (m.hear (.unpin t j)).2 :: R) (m.hear (.unpin t j)).1.1 (m.hear (.unpin t j)).1.2) :=
  (agent_hear ((h.msg0 (.unpin t j) _ rfl).at 1) (hb.ok hn) (fun t => hb.sp hn t) trivial).mono fun _ _ ⟨v, u, he, hS⟩ => ⟨v, u, he, ((hS.at 3).drop)⟩
/-- messages that can be read -/
theorem St.msgsR {v : Value} {ms : List MsgM} (h : St w0 (msgsA v ms :: R) w) : ∃ F, MsgsR F w v ms ∧ Bd F w := h.hd
theorem MsgsR.lit {F : Nat → Prop} {v : Value} {ms : List MsgM} (h : MsgsR F w v ms) : ∃ a c, v = .slice a ms.length c := by
  obtain ⟨vs, -, h2, -⟩ := h; obtain ⟨a, c, h, -⟩ := h2.shape; exact ⟨a, c, h⟩
theorem MsgsR.get {F : Nat → Prop} {v : Value} {ms : List MsgM} (h : MsgsR F w v ms) {i : Nat} {q : MsgM} (hq : ms[i]? = some q) : ∃ g off c u, v = .slice (some ⟨g, off, none⟩) ms.length c ∧ w.cell? ⟨g, off + i, none⟩ = some u ∧ MsgR F w u q ∧ F g := by
  obtain ⟨vs, h1, h2, h3⟩ := h
  obtain ⟨hi, -⟩ := List.getElem?_eq_some_iff.1 hq
  have hu : vs[i]? = some (vs[i]'(by omega)) := List.getElem?_eq_getElem _
  obtain ⟨g, off, c, hv, hF, -⟩ := h2.form (by omega)
  exact ⟨g, off, c, _, hv, h2.cells hv i _ hu, h3 i _ q hu hq, hF⟩
/-- one message, in its place -/
def oneA (g off : Nat) (u : Value) (q : MsgM) : Asn := ⟨fun F w => (w.cell? ⟨g, off, none⟩ = some u ∧ MsgR F w u q ∧ F g) ∧ Bd F w, fun h => h.2, fun h hf hs => ⟨⟨hf.cell_some h.1.1 (hs g h.1.2.2), h.1.2.1.fr hf hs, h.1.2.2⟩, h.2.fr hf⟩⟩
theorem St.one {v : Value} {q : MsgM} (h : St w0 (msgsA v [q] :: R) w) : ∃ g off c u, v = .slice (some ⟨g, off, none⟩) 1 c ∧ St w0 (oneA g off u q :: R) w := by
  obtain ⟨F, F1, F2, h1, h2, ⟨hM, hB⟩, h4⟩ := h.foot
  obtain ⟨g, off, c, u, rfl, hc, hq, hg⟩ := hM.get (i := 0) rfl
  exact ⟨g, off, c, u, rfl, h.ext, F, F1, F2, h1, h2, ⟨⟨hc, hq, hg⟩, hB⟩, h4⟩
theorem St.oneR {g off : Nat} {u : Value} {q : MsgM} (h : St w0 (oneA g off u q :: R) w) : ∃ F, w.cell? ⟨g, off, none⟩ = some u ∧ MsgR F w u q ∧ Bd F w := by
  obtain ⟨F, ⟨h1, h2, -⟩, h3⟩ := h.hd; exact ⟨F, h1, h2, h3⟩
theorem mk_Gone (n : Nat) (v : Value) (w : World) : (method (n + 1) 139 v "Kind").run Tryz.prog w = .ok (196, v) w := by kernel_rfl
theorem kind_Gone (a t c : Int) (h : St w0 R w) : Calls Tryz.prog 196 #[.agg #[.int .i64 a, .int .i64 t, .int .i64 c]] w (RetS' w0 R (.int .i64 4)) := by
  go_enter Tryz.func196, Tryz.ntmps196
  go_wp2
  go_ret
  exact ⟨rfl, h.fr (by repeat first | exact Fr.refl _ _ | refine Fr.alloc ?_ _)⟩
theorem mk_Unpinned (n : Nat) (v : Value) (w : World) : (method (n + 1) 146 v "Kind").run Tryz.prog w = .ok (202, v) w := by kernel_rfl
theorem kind_Unpinned (a t c : Int) (h : St w0 R w) : Calls Tryz.prog 202 #[.agg #[.int .i64 a, .int .i64 t, .int .i64 c]] w (RetS' w0 R (.int .i64 10)) := by
  go_enter Tryz.func202, Tryz.ntmps202
  go_wp2
  go_ret
  exact ⟨rfl, h.fr (by repeat first | exact Fr.refl _ _ | refine Fr.alloc ?_ _)⟩
attribute [go_sem] mk_Gone mk_Unpinned
def AwPost (w0 : World) (R : List Asn) : Ending → World → Prop := RetS' w0 R (.bool true)
set_option maxHeartbeats 2000000 in
theorem law_awake (h : St w0 R w) : Calls Tryz.prog 8 #[] w (AwPost w0 R) := by
  go_enter Tryz.func8, Tryz.ntmps8
  go_wp2_with fail
  refine (law_config h).mono ?_
  rintro e w1 ⟨rfl, h1⟩
  go_wp2_with fail
  refine (agent_new h1 1 cfg0 (by decide) (by decide) (by decide) (by decide) (by decide)).mono ?_
  rintro e w2 ⟨a, rfl, h2⟩
  go_wp2_with fail
  refine (law_config h2).mono ?_
  rintro e w3 ⟨rfl, h3⟩
  go_wp2_with fail
  refine (agent_new_id h3 3 cfg0 (by decide) (by decide)).mono ?_
  rintro e w4 ⟨rfl, h4⟩
  go_wp2_with fail
  refine (agent_span h4 (ag0_b.ok (by decide)) 7 txX).mono ?_
  rintro e w5 ⟨he, h5⟩
  change e = .returned (errV (ag0.k.write 7 txX).1 (ag0.k.write 7 txX).2.1) at he
  rw [ag0_w1, ag0_w2] at he
  subst he
  simp only [errV]
  have h6 := h5.alloc [.int .i64 7, .int .i64 1, .string txX] 37 rfl
  go_wp2_with fail
  refine (agent_crumb (m := ag1) (h6.at 1) (ag1_b.ok (by decide)) 7 2).mono ?_
  rintro e w6 ⟨he, h7⟩
  rw [ag1_crumb] at he
  subst he
  go_wp2_with fail
  refine (agent_trigger (m := ag2) h7 (ag2_b.ok (by decide)) 7 1).mono ?_
  rintro e w7 ⟨he, h8⟩
  rw [ag2_trigger, if_pos rfl] at he
  subst he
  simp only [trigV]
  have h9 := h8.alloc [.int .i64 1, .int .i64 7, .int .i64 1] 58 rfl
  go_wp2_with fail
  refine (hear_pin (m := ag3) (h9.at 1) ag3_b (by decide) 7 4).mono ?_
  rintro e w8 ⟨v1, u1, rfl, h10⟩
  rw [ag3_hear] at h10
  change St w0 (msgsA v1 [.pinned ⟨1, 7, 4, 1, [2], false⟩] :: msgsA u1 [] :: agentA a ag4 :: _) _ at h10
  go_wp2_with fail
  refine (agent_span (h10.at 2) (ag4_b.ok (by decide)) 7 txY).mono ?_
  rintro e w9 ⟨he, h11⟩
  rw [ag4_w1, ag4_w2] at he
  subst he
  simp only [errV, zSp]
  have h12 := h11.alloc [.int .i64 0, .int .i64 0, .string ByteArray.empty] 37 rfl
  go_wp2_with fail
  refine (hear_collect (m := ag5) (h12.at 1) ag5_b (by decide) 7 4).mono ?_
  rintro e w10 ⟨v2, u2, rfl, h13⟩
  rw [ag5_collect4] at h13
  go_wp2_with fail
  refine (hear_collect (m := ag5) (h13.at 2) ag5_b (by decide) 7 5).mono ?_
  rintro e w11 ⟨v3, u3, rfl, h14⟩
  rw [ag5_collect5] at h14
  simp only [] at h14
  have h15z := ((((((((h14.at 1).drop).at 2).drop).at 3).drop).at 4).drop)
  obtain ⟨g3, o3, c3, um3, rfl, h15a⟩ := h15z.one
  obtain ⟨g2, o2, c2, um2, rfl, h15b⟩ := (h15a.at 2).one
  obtain ⟨g1, o1, c1, um1, rfl, h15c⟩ := (h15b.at 3).one
  have h15 := h15c
  clear h h1 h2 h3 h4 h5 h6 h7 h8 h9 h10 h11 h12 h13 h14 h15z h15a h15b h15c
  obtain ⟨F1, hc1, ⟨cv, hu1, hI1⟩, -⟩ := h15.oneR
  subst hu1
  obtain ⟨ca, cc, hcv, -, -⟩ := Rs.shape hI1
  simp only [List.length_cons, List.length_nil, Nat.zero_add] at hcv
  subst hcv
  go_wp2_with fail
  refine (law_like_pinned h15 1 7 4 1 ca 1 cc false).mono ?_
  rintro e w12 ⟨rfl, h16⟩
  have h17 := h16.alloc [.int .i64 3, .int .i64 0, .int .i64 0, .int .i64 0, .int .i64 0, .int .i64 0, .int .i64 0, .int .i64 1, .int .i64 7, .int .i64 4, .int .i64 1, .slice ca 1 cc, .bool false, .slice none 0 0, .slice none 0 0] 84 rfl
  obtain ⟨F2, hc2, ⟨sv, hu2, hS2⟩, -⟩ := (h17.at 2).oneR
  subst hu2
  obtain ⟨sa, sc, hsv, -, -⟩ := Rs.shape hS2
  simp only [List.length_cons, List.length_nil, Nat.zero_add] at hsv
  subst hsv
  clear hc1
  go_wp2_with fail
  refine (law_like_chunk h17 1 7 4 0 1 sa 1 sc).mono ?_
  rintro e w13 ⟨rfl, h18⟩
  have h19 := h18.alloc [.int .i64 6, .int .i64 1, .int .i64 7, .int .i64 4, .int .i64 0, .int .i64 0, .int .i64 1, .int .i64 0, .int .i64 0, .int .i64 0, .int .i64 0, .slice none 0 0, .bool false, .slice none 0 0, .slice sa 1 sc] 84 rfl
  clear hc2
  go_wp2_with fail
  refine (agent_job (h19.at 5) 7).mono ?_
  rintro e w14 ⟨rfl, rfl⟩
  rw [ag5_job]
  go_wp2_with fail
  refine (hear_unpin (h19.at 5) ag5_b (by decide) 7 4).mono ?_
  rintro e w15 ⟨v4, u4, rfl, h20⟩
  rw [ag5_unpin] at h20
  obtain ⟨g4, o4, c4, um4, rfl, h21⟩ := ((h20.at 1).drop).one
  obtain ⟨F4, hc4, hu4, -⟩ := h21.oneR
  obtain ⟨F3, hc3, hu3, -⟩ := (h21.at 6).oneR
  change um4 = _ at hu4
  change um3 = _ at hu3
  subst hu4 hu3
  clear h15 h16 h17 h18 h19 h20 hc3 hc4 hI1 hS2
  have h21' : St w0 (_ :: agentA a ag6 :: _) _ := h21
  replace h21 := h21'
  clear h21'
  have s1 := (h21.at 8).blk.get (i := 1) rfl
  have t0 := (h21.at 7).blk.get (i := 0) rfl
  have t1 := (h21.at 7).blk.get (i := 1) rfl
  have t2 := (h21.at 7).blk.get (i := 2) rfl
  have p0 := (h21.at 3).blk.get (i := 0) rfl
  have p10 := (h21.at 3).blk.get (i := 10) rfl
  have p11 := (h21.at 3).blk.get (i := 11) rfl
  have h22 := h21.alloc [.int .i64 2] 3 rfl
  obtain ⟨F1', -, ⟨cv', hu1', hI1⟩, hB1⟩ := (h22.at 5).oneR
  cases hu1'
  have H1 := same_ints (fun k => k < (w15.alloc (.cells #[.int .i64 2] 3)).heap.size) _ (.slice ca 1 cc) (.slice (some ⟨w15.heap.size, 0, none⟩) 1 1) [2] [2] (Rs.mono hI1 hB1)
    ⟨⟨_, _, rfl, Nat.le_refl _, fun h => by cases h⟩, fun _ => ⟨_, _, _, rfl, by simp, Nat.le_refl _⟩, fun hv j z hz => by cases hv; rw [Nat.zero_add]; exact h22.blk.get hz⟩ (by decide)
  clear hI1 hB1
  rw [decide_eq_true rfl] at H1
  go_wp2_with fail
  refine H1.mono ?_
  rintro e w16 ⟨rfl, hF⟩
  have h23 := (h22.fr hF).drop
  clear s1 t0 t1 t2 p0 p10 p11 h21 h22 hF H1
  have c0 := (h23.at 2).blk.get (i := 0) rfl
  have c14 := (h23.at 2).blk.get (i := 14) rfl
  obtain ⟨F3, hc3, -⟩ := (h23.at 6).oneR
  go_wp2_with fail
  refine (kind_Gone 1 7 5 h23).mono ?_
  rintro e w17 ⟨rfl, h24⟩
  clear c0 c14 hc3 h23
  obtain ⟨F4, hc4, -⟩ := h24.oneR
  go_wp2_with fail
  refine (kind_Unpinned 1 7 4 h24).mono ?_
  rintro e w18 ⟨rfl, h25⟩
  clear hc4 h24
  go_wp2_with fail
  refine (agent_job (h25.at 1) 7).mono ?_
  rintro e w19 ⟨rfl, rfl⟩
  rw [ag6_job]
  go_wp2_with fail
  refine (agent_spans (h25.at 1) 7).mono ?_
  rintro e w20 ⟨v5, rfl, h26, hv5⟩
  obtain rfl := hv5.2 ag6_spans
  clear hv5
  go_wp2_with fail
  refine (agent_used (h26.at 1)).mono ?_
  rintro e w21 ⟨rfl, h27⟩
  rw [ag6_used]
  go_wp2
  go_ret
  exact ⟨rfl, h27.drop.drop.drop.drop.drop.drop.drop.drop.drop.drop⟩
end
end Go.Proofs.YtkjggglmemafgaaGreat
