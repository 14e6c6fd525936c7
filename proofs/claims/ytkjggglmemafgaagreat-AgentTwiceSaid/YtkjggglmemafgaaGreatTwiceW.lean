import Derived.Test.YtkjggglmemafgaaGreatLawTw
namespace Go.Proofs.YtkjggglmemafgaaGreat
open Go Go.RowKit
set_option linter.unusedVariables false
set_option linter.unusedSimpArgs false
set_option maxRecDepth 1000000

def OpM.run (m : AgentM) (o : OpM) : AgentM :=
  if o.kind = 1 then { m with k := (m.k.write o.trace o.s).2.2 } else if o.kind = 2 then (m.crumb o.trace o.n).2 else if o.kind = 3 then (m.trigger o.trace o.n).2 else if o.kind = 4 then m.tick else (m.hear o.msg).2
theorem AgB.run {m : AgentM} {n : Nat} (h : AgB m n) (o : OpM) : AgB (o.run m) (n + 1) := by
  unfold OpM.run
  split
  · exact h.span _ _
  · split
    · exact (h.crumb _ _).mono (Nat.le_succ n)
    · split
      · exact h.trigger _ _
      · split
        · exact h.tick.mono (Nat.le_succ n)
        · exact (h.hear _).mono (Nat.le_succ n)
theorem run_step {l : List OpM} {k : Nat} {o : OpM} {m m0 : AgentM} (hm : m = (l.take k).foldl OpM.run m0) (ho : l[k]? = some o) : o.run m = (l.take (k + 1)).foldl OpM.run m0 := by
  rw [List.take_add_one, ho, List.foldl_append, ← hm]; rfl
theorem AgB.foldl (l : List OpM) : ∀ {m : AgentM} {n : Nat}, AgB m n → AgB (l.foldl OpM.run m) (n + l.length) := by
  induction l with
  | nil => intro m n h; exact h
  | cons o l ih => intro m n h; have := ih (h.run o); rw [List.foldl_cons, List.length_cons]; exact this.mono (by omega)
/-- the two agents behind n rounds -/
def TwSt (w : World) (a b X : Nat) (m0 M : AgentM) (L : List Asn) (n : Nat) (wr : World) : Prop :=
  St w (agentA a (if 1 ≤ n then M else m0) :: agentA b (if 2 ≤ n then M else m0) :: blkA X 26 [.pointer (some ⟨a, 0, none⟩), .pointer (some ⟨b, 0, none⟩)] :: L) wr
theorem tw_pick {w wr : World} {a b X : Nat} {m0 M : AgentM} {L : List Asn} {n : Nat} (h : TwSt w a b X m0 M L n wr) (hn : n < 2) :
    ∃ p q mq, wr.cell? ⟨X, n, none⟩ = some (.pointer (some ⟨p, 0, none⟩)) ∧ St w (agentA p m0 :: agentA q mq :: blkA X 26 [.pointer (some ⟨a, 0, none⟩), .pointer (some ⟨b, 0, none⟩)] :: L) wr ∧
      ∀ wr', St w (agentA p M :: agentA q mq :: blkA X 26 [.pointer (some ⟨a, 0, none⟩), .pointer (some ⟨b, 0, none⟩)] :: L) wr' → TwSt w a b X m0 M L (n + 1) wr' := by
  have hc : n = 0 ∨ n = 1 := by omega
  rcases hc with rfl | rfl
  · have h' : St w (agentA a m0 :: agentA b m0 :: blkA X 26 [.pointer (some ⟨a, 0, none⟩), .pointer (some ⟨b, 0, none⟩)] :: L) wr := h
    exact ⟨a, b, m0, (h'.at 2).blk.get (i := 0) rfl, h', fun wr' h2 => h2⟩
  · have h' : St w (agentA a M :: agentA b m0 :: blkA X 26 [.pointer (some ⟨a, 0, none⟩), .pointer (some ⟨b, 0, none⟩)] :: L) wr := h
    exact ⟨b, a, M, (h'.at 2).blk.get (i := 1) rfl, h'.at 1, fun wr' h2 => h2.at 1⟩
section
variable {w : World}
set_option maxHeartbeats 4000000 in
theorem law_twice {v : Value} {l : List OpM} (h : OpsR (fun k => k < w.heap.size) w v l) (hl : (l.length : Int) ≤ 9223372036854775807) (pk pt pn : Int) (ps : ByteArray) : Calls Tryz.prog 7 #[v, .agg #[.int .i64 pk, .int .i64 pt, .int .i64 pn, .string ps]] w (AwPost w [oldA w]) := by
  obtain ⟨va, vc, rfl, hvc, -⟩ := Rs.shape h
  have hS0 := (St.start w).alloc [.int .i64 pk, .int .i64 pt, .int .i64 pn, .string ps] 35 rfl
  go_enter Tryz.func7, Tryz.ntmps7
  go_wp2_with fail
  refine (law_awake hS0).mono ?_
  rintro e w1 ⟨rfl, h1⟩
  go_wp2_with fail
  have HW : Hid (fewS l = true → l.length ≤ 200) := (fun h => by unfold fewS at h; simp at h; exact h.2 : fewS l = true → l.length ≤ 200)
  have ho1 := (h1.at 1).old
  refine (law_few (fun k => k < w.heap.size) w1 (.slice va l.length vc) l (Rs.fr h ho1 (fun _ _ h => h)) (fun k hk => Nat.lt_of_lt_of_le hk ho1.size) hl).mono ?_
  rintro e w2 ⟨rfl, hF⟩
  have h2 := h1.fr hF
  clear h1 hF hS0 ho1
  cases hfew : fewS l with
  | false =>
    clear hfew HW
    go_wp2_with fail
    refine (law_awake h2).mono ?_
    rintro e w3 ⟨rfl, h3⟩
    go_wp2
    go_ret
    exact ⟨rfl, h3.drop⟩
  | true =>
    have hlen : l.length ≤ 200 := HW.out hfew
    clear hfew HW
    have b0 := h2.blk.get (i := 0) rfl
    have b1 := h2.blk.get (i := 1) rfl
    have b2 := h2.blk.get (i := 2) rfl
    have b3 := h2.blk.get (i := 3) rfl
    have h3 := h2.alloc [.int .i64 pk, .int .i64 pt, .int .i64 pn, .string ps] 35 rfl
    go_wp2_with fail
    refine (law_few (fun k => k < w2.heap.size + 1) _ _ [⟨pk, pt, pn, ps⟩] ⟨⟨_, _, rfl, Nat.le_refl _, fun h => by cases h⟩, fun _ => ⟨w2.heap.size, 0, 1, rfl, Nat.lt_succ_self _, Nat.le_refl _⟩, fun hv j z hz => by cases hv; rw [Nat.zero_add]; exact h3.blk.get (by simpa [OpM.cs] using hz)⟩ (fun k hk => by simpa using hk) (by show (1 : Int) ≤ 9223372036854775807; decide)).mono ?_
    rintro e w4 ⟨rfl, hF⟩
    have h4 := (h3.fr hF).drop
    clear h2 h3 hF b0 b1 b2 b3
    have b0 := h4.blk.get (i := 0) rfl
    cases hfew : fewS [⟨pk, pt, pn, ps⟩] with
    | false =>
      clear hfew
      go_wp2_with fail
      refine (law_awake h4).mono ?_
      rintro e w3 ⟨rfl, h3⟩
      go_wp2
      go_ret
      exact ⟨rfl, h3.drop⟩
    | true =>
      clear hfew
      by_cases hk5 : pk < 5
      · go_wp2_with fail
        refine (law_awake h4).mono ?_
        rintro e w3 ⟨rfl, h3⟩
        go_wp2
        go_ret
        exact ⟨rfl, h3.drop⟩
      go_wp2_with fail
      refine (law_config h4).mono ?_
      rintro e w5 ⟨rfl, h5⟩
      go_wp2_with fail
      refine (agent_new h5 1 cfg0 (by decide) (by decide) (by decide) (by decide) (by decide)).mono ?_
      rintro e w6 ⟨a, rfl, h6⟩
      go_wp2_with fail
      refine (law_config h6).mono ?_
      rintro e w7 ⟨rfl, h7⟩
      go_wp2_with fail
      refine (agent_new h7 1 cfg0 (by decide) (by decide) (by decide) (by decide) (by decide)).mono ?_
      rintro e w8 ⟨b, rfl, h8⟩
      have h9 := h8.alloc [.pointer (some ⟨a, 0, none⟩), .pointer (some ⟨b, 0, none⟩)] 26 rfl
      clear h4 h5 h6 h7 h8 b0
      have hM0 : AgB (AgentM.new 1 cfg0) 0 := ag0_b
      go_wp2
      go_loopw [53] (fun i wr => ∃ n : Nat, n ≤ 2 ∧ i = .int .i64 n ∧ TwSt w a b w8.heap.size (AgentM.new 1 cfg0) (l.foldl OpM.run (AgentM.new 1 cfg0)) [blkA w.heap.size 35 [.int .i64 pk, .int .i64 pt, .int .i64 pn, .string ps], oldA w] n wr) (fun i _ => 2 - (intOf i).toNat)
      case atStart => exact ⟨0, by omega, rfl, ((h9.at 1).at 2)⟩
      case round =>
        obtain ⟨n, hn, rfl, hT⟩ := hrel
        have hn0 : (0 : Int) ≤ (n : Int) := by omega
        by_cases hn2 : n < 2
        · have hn2' : (n : Int) < 2 := by omega
          obtain ⟨p, q, mq, hc, hSp, hback⟩ := tw_pick hT hn2
          have HBK : Hid _ := hback
          clear hback hT
          go_wp2
          clear hc
          go_loopw [59] (fun i wr => ∃ (k : Nat) (m : AgentM), k ≤ l.length ∧ i = .int .i64 k ∧ AgB m k ∧ Hid (m = (l.take k).foldl OpM.run (AgentM.new 1 cfg0)) ∧ St w (agentA p m :: agentA q mq :: blkA w8.heap.size 26 [.pointer (some ⟨a, 0, none⟩), .pointer (some ⟨b, 0, none⟩)] :: [blkA w.heap.size 35 [.int .i64 pk, .int .i64 pt, .int .i64 pn, .string ps], oldA w]) wr) (fun i _ => l.length - (intOf i).toNat)
          case atStart => exact ⟨0, _, Nat.zero_le _, rfl, hM0, (rfl : AgentM.new 1 cfg0 = _), hSp⟩
          case round =>
          obtain ⟨k, m, hk, rfl, hB, HM, hS⟩ := hrel
          have hk0 : (0 : Int) ≤ (k : Int) := by omega
          by_cases hlt : k < l.length
          rotate_left
          · obtain rfl : k = l.length := by omega
            have hlt' : ¬ (l.length : Int) < (l.length : Int) := by omega
            have hMM : m = l.foldl OpM.run (AgentM.new 1 cfg0) := by have := HM.out; rw [List.take_of_length_le (Nat.le_refl _)] at this; exact this
            have hS2 := HBK.out _ (hMM ▸ hS)
            clear hMM hS
            go_wp2
            go_roundw
            case rel => exact ⟨n + 1, by omega, by go_num, hS2⟩
            case measure => simp [intOf]; omega
          have hlt' : (k : Int) < (l.length : Int) := by omega
          obtain ⟨⟨ok, ot, on, os⟩, ho⟩ : ∃ o, l[k]? = some o := ⟨l[k], List.getElem?_eq_getElem hlt⟩
          obtain ⟨g, off, c', hv, c0, c1, c2, c3⟩ := OpsR.cells4 h (hS.at 4).old ho
          cases hv
          have HO : Hid _ := ho
          clear ho
          have hbx := hS.alloc [.int .i64 ok, .int .i64 ot, .int .i64 on, .string os] 35 rfl
          by_cases e1 : ok = 1
          · subst e1
            have hR := run_step HM.out HO.out
            have hR2 : Hid _ := hR
            clear hR
            go_wp2_with fail
            refine (agent_span (hbx.at 1) (hB.ok (by omega)) ot os).mono ?_
            rintro e w9 ⟨rfl, h5⟩
            go_wp2
            go_roundw
            case rel => exact ⟨k + 1, _, by omega, by go_num, hB.run ⟨1, ot, on, os⟩, hR2, (h5.at 1).drop⟩
            case measure => simp [intOf]; omega
          by_cases e2 : ok = 2
          · subst e2
            have hR := run_step HM.out HO.out
            have hR2 : Hid _ := hR
            clear hR
            go_wp2_with fail
            refine (agent_crumb (hbx.at 1) (hB.ok (by omega)) ot on).mono ?_
            rintro e w9 ⟨rfl, h5⟩
            go_wp2
            go_roundw
            case rel => exact ⟨k + 1, _, by omega, by go_num, hB.run ⟨2, ot, on, os⟩, hR2, (h5.at 1).drop⟩
            case measure => simp [intOf]; omega
          by_cases e3 : ok = 3
          · subst e3
            have hR := run_step HM.out HO.out
            have hR2 : Hid _ := hR
            clear hR
            go_wp2_with fail
            refine (agent_trigger (hbx.at 1) (hB.ok (by omega)) ot on).mono ?_
            rintro e w9 ⟨he, h5⟩
            obtain ⟨ev, rfl⟩ : ∃ ev, e = .returned ev := ⟨_, he⟩
            clear he
            go_wp2
            go_roundw
            case rel => exact ⟨k + 1, _, by omega, by go_num, hB.run ⟨3, ot, on, os⟩, hR2, (h5.at 1).drop⟩
            case measure => simp [intOf]; omega
          by_cases e4 : ok = 4
          · subst e4
            have hR := run_step HM.out HO.out
            have hR2 : Hid _ := hR
            clear hR
            go_wp2_with fail
            refine (agent_tick (hbx.at 1) (hB.ok (by omega))).mono ?_
            rintro e w9 ⟨v6, rfl, h5a, hv6⟩
            clear hv6
            have h5 := h5a.drop
            clear h5a
            go_wp2
            go_roundw
            case rel => exact ⟨k + 1, _, by omega, by go_num, hB.run ⟨4, ot, on, os⟩, hR2, (h5.at 1).drop⟩
            case measure => simp [intOf]; omega
          have hR := run_step HM.out HO.out
          have hrun : OpM.run m ⟨ok, ot, on, os⟩ = (m.hear (OpM.msg ⟨ok, ot, on, os⟩)).2 := by simp only [OpM.run]; rw [if_neg e1, if_neg e2, if_neg e3, if_neg e4]
          rw [hrun] at hR
          have hBR := hB.run ⟨ok, ot, on, os⟩
          rw [hrun] at hBR
          have hR2 : Hid _ := hR
          clear hR hrun
          have f1 : (ok == 1) = false := by simpa using e1
          have f2 : (ok == 2) = false := by simpa using e2
          have f3 : (ok == 3) = false := by simpa using e3
          have f4 : (ok == 4) = false := by simpa using e4
          clear e1 e2 e3 e4
          go_wp2_with fail
          refine (law_message hbx ⟨ok, ot, on, os⟩).mono ?_
          rintro e w9 ⟨rfl, h5z⟩
          have H1 := hear_op (h5z.at 1) hB (by omega) ⟨ok, ot, on, os⟩
          generalize (OpM.msg ⟨ok, ot, on, os⟩).val = mv at H1 ⊢
          generalize (m.hear (OpM.msg ⟨ok, ot, on, os⟩)) = r at hR2 hBR H1
          go_wp2_with fail
          refine H1.mono ?_
          rintro e w10 ⟨v1, u1, rfl, h5a⟩
          have h5 := (h5a.drop).drop
          clear h5a h5z
          go_wp2
          go_roundw
          case rel => exact ⟨k + 1, r.2, by omega, by go_num, hBR, hR2, (h5.at 1).drop⟩
          case measure => simp [intOf]; omega
        · obtain rfl : n = 2 := by omega
          have hSa : St w (agentA a (l.foldl OpM.run (AgentM.new 1 cfg0)) :: agentA b (l.foldl OpM.run (AgentM.new 1 cfg0)) :: _ :: _) _ := hT
          have hBM : AgB (l.foldl OpM.run (AgentM.new 1 cfg0)) 200 := (AgB.foldl l hM0).mono (by omega)
          generalize l.foldl OpM.run (AgentM.new 1 cfg0) = M at hSa hBM
          have hs := hear_twice (agent_srt hSa) (OpM.msg ⟨pk, pt, pn, ps⟩)
          have hB1 := hBM.hear (OpM.msg ⟨pk, pt, pn, ps⟩)
          have hB2 := hB1.hear (OpM.msg ⟨pk, pt, pn, ps⟩)
          clear hT
          have b0 := (hSa.at 3).blk.get (i := 0) rfl
          have b1 := (hSa.at 3).blk.get (i := 1) rfl
          have b2 := (hSa.at 3).blk.get (i := 2) rfl
          have b3 := (hSa.at 3).blk.get (i := 3) rfl
          go_wp2_with fail
          refine (law_message hSa ⟨pk, pt, pn, ps⟩).mono ?_
          rintro e w9 ⟨rfl, h10⟩
          clear b0 b1 b2 b3 hSa
          go_wp2_with fail
          refine (hear_op h10 hBM (by omega) ⟨pk, pt, pn, ps⟩).mono ?_
          rintro e w10 ⟨v1, u1, rfl, h11⟩
          have h12 := (h11.drop).drop
          clear h10 h11
          have b0 := (h12.at 3).blk.get (i := 0) rfl
          have b1 := (h12.at 3).blk.get (i := 1) rfl
          have b2 := (h12.at 3).blk.get (i := 2) rfl
          have b3 := (h12.at 3).blk.get (i := 3) rfl
          go_wp2_with fail
          refine (law_message h12 ⟨pk, pt, pn, ps⟩).mono ?_
          rintro e w11 ⟨rfl, h13⟩
          clear b0 b1 b2 b3 h12
          go_wp2_with fail
          refine (hear_op (h13.at 1) hBM (by omega) ⟨pk, pt, pn, ps⟩).mono ?_
          rintro e w12 ⟨v2, u2, rfl, h14⟩
          have h15 := (h14.drop).drop
          clear h13 h14
          have b0 := (h15.at 3).blk.get (i := 0) rfl
          have b1 := (h15.at 3).blk.get (i := 1) rfl
          have b2 := (h15.at 3).blk.get (i := 2) rfl
          have b3 := (h15.at 3).blk.get (i := 3) rfl
          go_wp2_with fail
          refine (law_message h15 ⟨pk, pt, pn, ps⟩).mono ?_
          rintro e w13 ⟨rfl, h16⟩
          clear b0 b1 b2 b3 h15
          go_wp2_with fail
          refine (hear_op h16 hB1 (by omega) ⟨pk, pt, pn, ps⟩).mono ?_
          rintro e w14 ⟨v3, u3, rfl, h17⟩
          have h18 : St w (agentA a (M.hear (OpM.msg ⟨pk, pt, pn, ps⟩)).2 :: agentA b ((M.hear (OpM.msg ⟨pk, pt, pn, ps⟩)).2.hear (OpM.msg ⟨pk, pt, pn, ps⟩)).2 :: [oldA w]) w14 := ((((h17.drop).drop.at 2).drop.at 2).drop.at 1)
          clear h16 h17
          generalize ((M.hear (OpM.msg ⟨pk, pt, pn, ps⟩)).2.hear (OpM.msg ⟨pk, pt, pn, ps⟩)).2 = M2 at hs hB2 h18
          generalize (M.hear (OpM.msg ⟨pk, pt, pn, ps⟩)).2 = M1 at hs hB1 h18
          generalize (OpM.msg ⟨pk, pt, pn, ps⟩).val = mv
          have HS : Hid _ := hs
          clear hs
          go_wp2
          go_loopw [111] (fun i wr => ∃ n : Nat, n ≤ 10 ∧ i = .int .i64 n ∧ St w [agentA a M1, agentA b M2, oldA w] wr) (fun i _ => 10 - (intOf i).toNat)
          case atStart => exact ⟨0, by omega, rfl, h18⟩
          case round =>
          obtain ⟨n, hn, rfl, hS⟩ := hrel
          have hn0 : (0 : Int) ≤ (n : Int) := by omega
          by_cases hn10 : n < 10
          · have hn10' : (n : Int) < 10 := by omega
            go_wp2_with fail
            refine (agent_job hS n).mono ?_
            rintro e w15 ⟨rfl, rfl⟩
            go_wp2_with fail
            refine (agent_job (hS.at 1) n).mono ?_
            rintro e w15 ⟨rfl, rfl⟩
            rw [← HS.out.job n]
            go_wp2_with fail
            refine (agent_lost hS n).mono ?_
            rintro e w15 ⟨rfl, rfl⟩
            go_wp2_with fail
            refine (agent_lost (hS.at 1) n).mono ?_
            rintro e w15 ⟨rfl, rfl⟩
            rw [← HS.out.lost n]
            go_wp2_with fail
            refine (agent_spans hS n).mono ?_
            rintro e w15 ⟨v4, rfl, h19, hv4⟩
            clear hv4
            obtain ⟨x4, y4, rfl⟩ := h19.sl.lit
            have h20 := h19.drop
            clear h19
            go_wp2_with fail
            refine (agent_spans (h20.at 1) n).mono ?_
            rintro e w16 ⟨v5, rfl, h21, hv5⟩
            clear hv5
            obtain ⟨x5, y5, rfl⟩ := h21.sl.lit
            have h22 := (h21.drop).at 1
            clear h21 h20
            rw [← HS.out.P]
            go_wp2_with fail
            refine (agent_crumbs h22 (hB1.ok (by omega)) n).mono ?_
            rintro e w17 ⟨v6, rfl, h23, hv6⟩
            clear hv6
            obtain ⟨x6, y6, rfl⟩ := h23.sl.lit
            have h24 := h23.drop
            clear h23 h22
            go_wp2_with fail
            refine (agent_crumbs (h24.at 1) (hB2.ok (by omega)) n).mono ?_
            rintro e w18 ⟨v7, rfl, h25, hv7⟩
            clear hv7
            obtain ⟨x7, y7, rfl⟩ := h25.sl.lit
            have h26 := (h25.drop).at 1
            clear h25 h24
            rw [← HS.out.c]
            go_wp2
            go_roundw
            case rel => exact ⟨n + 1, by omega, by go_num, h26⟩
            case measure => simp [intOf]; omega
          · obtain rfl : n = 10 := by omega
            go_wp2_with fail
            refine (agent_used hS).mono ?_
            rintro e w15 ⟨rfl, h19⟩
            go_wp2_with fail
            refine (agent_used (h19.at 1)).mono ?_
            rintro e w16 ⟨rfl, h20⟩
            rw [← HS.out.P]
            go_wp2_with fail
            refine (agent_evicted (h20.at 1) (hB1.ok (by omega))).mono ?_
            rintro e w17 ⟨v6, rfl, h23, hv6⟩
            clear hv6
            obtain ⟨x6, y6, rfl⟩ := h23.sl.lit
            have h24 := h23.drop
            clear h23 h20 h19
            go_wp2_with fail
            refine (agent_evicted (h24.at 1) (hB2.ok (by omega))).mono ?_
            rintro e w18 ⟨v7, rfl, h25, hv7⟩
            clear hv7
            obtain ⟨x7, y7, rfl⟩ := h25.sl.lit
            rw [← HS.out.gone]
            go_wp2
            go_ret
            exact ⟨rfl, ((h25.drop).drop).drop⟩
end
end Go.Proofs.YtkjggglmemafgaaGreat
