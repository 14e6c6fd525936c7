import Derived.Test.YtkjggglmemafgaaGreatLawBo
namespace Go.Proofs.YtkjggglmemafgaaGreat
open Go Go.RowKit
set_option linter.unusedVariables false
set_option linter.unusedSimpArgs false
set_option maxRecDepth 1000000

theorem field_cfg (w : World) : (Instr.field 32 (.agg #[.int .i64 3, .int .i64 4, .int .i64 3, .int .i64 4, .int .u64 9, .int .i64 2, .int .i64 1]) 1).run Tryz.prog w = .ok (.int .i64 4) w := by kernel_rfl
attribute [go_sem] field_cfg
theorem nlt4 {n : Nat} (h : n ≤ 4) : ¬ (4 : Int) < (n : Int) := by omega
section
variable {w : World}
set_option maxHeartbeats 4000000 in
theorem law_bounds {v : Value} {l : List OpM} (h : OpsR (fun k => k < w.heap.size) w v l) (hl : (l.length : Int) ≤ 9223372036854775807) : Calls Tryz.prog 4 #[v] w (AwPost w [oldA w]) := by
  obtain ⟨va, vc, rfl, hvc, -⟩ := Rs.shape h
  have hS0 := St.start w
  go_enter Tryz.func4, Tryz.ntmps4
  go_wp2_with fail
  refine (law_awake hS0).mono ?_
  rintro e w1 ⟨rfl, h1⟩
  go_wp2_with fail
  have HW : Hid (fewS l = true → l.length ≤ 200) := (fun h => by unfold fewS at h; simp at h; exact h.2 : fewS l = true → l.length ≤ 200)
  refine (law_few (fun k => k < w.heap.size) w1 (.slice va l.length vc) l (Rs.fr h h1.old (fun _ _ h => h)) (fun k hk => Nat.lt_of_lt_of_le hk h1.old.size) hl).mono ?_
  rintro e w2 ⟨rfl, hF⟩
  have h2 := h1.fr hF
  clear h1 hF hS0
  cases hfew : fewS l with
  | false =>
    clear hfew HW
    go_wp2_with fail
    refine (law_awake h2).mono ?_
    rintro e w3 ⟨rfl, h3⟩
    go_wp2
    go_ret
    exact ⟨rfl, h3⟩
  | true =>
    have hlen : l.length ≤ 200 := HW.out hfew
    clear hfew HW
    go_wp2_with fail
    refine (law_config h2).mono ?_
    rintro e w3 ⟨rfl, h3⟩
    go_wp2_with fail
    refine (agent_new h3 1 cfg0 (by decide) (by decide) (by decide) (by decide) (by decide)).mono ?_
    rintro e w4 ⟨a, rfl, h4⟩
    clear h2 h3
    go_wp2
    go_loopw [27] (fun i wr => ∃ (k : Nat) (m : AgentM), k ≤ l.length ∧ i = .int .i64 k ∧ AgB m k ∧ m.k.P.n = 4 ∧ St w [agentA a m, oldA w] wr) (fun i _ => l.length - (intOf i).toNat)
    case atStart => exact ⟨0, AgentM.new 1 cfg0, Nat.zero_le _, rfl, ag0_b, rfl, h4⟩
    case round =>
      obtain ⟨k, m, hk, rfl, hB, hN, hS⟩ := hrel
      have hk0 : (0 : Int) ≤ (k : Int) := by omega
      by_cases hlt : k < l.length
      · have hlt' : (k : Int) < (l.length : Int) := by omega
        obtain ⟨⟨ok, ot, on, os⟩, ho⟩ : ∃ o, l[k]? = some o := ⟨l[k], List.getElem?_eq_getElem hlt⟩
        obtain ⟨g, off, c', hv, c0, c1, c2, c3⟩ := OpsR.cells4 h (hS.at 1).old ho
        cases hv
        clear ho
        have hbx := hS.alloc [.int .i64 ok, .int .i64 ot, .int .i64 on, .string os] 35 rfl
        have HNN : Hid _ := hN
        clear hN
        go_wp2_with fail
        refine (agent_lost (hbx.at 1) ot).mono ?_
        rintro e w5 ⟨rfl, rfl⟩
        by_cases e1 : ok = 1
        · subst e1
          have hL := write_lost m.k ot os
          have hK := write_ok m.k ot os
          have hn' := (write_n m.k ot os).trans HNN.out
          have hB' := hB.span ot os
          have H1 := agent_span (hbx.at 1) (hB.ok (by omega)) ot os
          generalize hr : m.k.write ot os = r at hL hK hn' hB' H1
          obtain ⟨⟨tr, sq, tx⟩, er, k'⟩ := r
          simp only [] at hL hK hn' hB' H1
          clear hr
          cases hlost : m.k.lost ot with
          | true =>
            have hL2 := hL hlost
            have HL : Hid _ := hlost
            clear hL hK hlost
            rcases hL2 with rfl | rfl
            all_goals
              go_wp2_with fail
              refine H1.mono ?_
              rintro e w6 ⟨rfl, h5⟩
              simp only [errV]
              have h6 := h5.alloc [.int .i64 tr, .int .i64 sq, .string tx] 37 rfl
              have hu := agent_used_le (h6.at 1)
              rw [hn'] at hu
              have hu4 := nlt4 hu
              have HN' : Hid _ := hn'
              clear hn' hu
              go_wp2_with fail
              refine (agent_used (h6.at 1)).mono ?_
              rintro e wu ⟨rfl, hu1⟩
              go_wp2_with fail
              refine (law_config hu1).mono ?_
              rintro e wc ⟨rfl, hu2⟩
              clear hu1
              go_wp2
              go_roundw
              case rel => exact ⟨k + 1, { m with k := k' }, by omega, by go_num, hB', HN'.out, ((hu2.at 1).drop.at 1).drop⟩
              case measure => simp [intOf]; omega
          | false =>
            have HL : Hid _ := hlost
            clear hL hlost
            by_cases he0 : er = 0
            · subst he0
              obtain ⟨rfl, rfl⟩ := hK rfl
              clear hK
              go_wp2_with fail
              refine H1.mono ?_
              rintro e w6 ⟨rfl, h5⟩
              simp only [errV]
              have h6 := h5.alloc [.int .i64 tr, .int .i64 sq, .string tx] 37 rfl
              have q1 := (h6.at 2).blk.get (i := 1) rfl
              have q3 := (h6.at 2).blk.get (i := 3) rfl
              have hu := agent_used_le (h6.at 1)
              rw [hn'] at hu
              have hu4 := nlt4 hu
              have HN' : Hid _ := hn'
              clear hn' hu
              go_wp2_with fail
              refine (agent_used (h6.at 1)).mono ?_
              rintro e wu ⟨rfl, hu1⟩
              go_wp2_with fail
              refine (law_config hu1).mono ?_
              rintro e wc ⟨rfl, hu2⟩
              clear hu1
              go_wp2
              go_roundw
              case rel => exact ⟨k + 1, { m with k := k' }, by omega, by go_num, hB', HN'.out, ((hu2.at 1).drop.at 1).drop⟩
              case measure => simp [intOf]; omega
            · have he1 : (er == 0) = false := by simpa using he0
              clear hK he0
              go_wp2_with fail
              refine H1.mono ?_
              rintro e w6 ⟨rfl, h5⟩
              simp only [errV]
              have h6 := h5.alloc [.int .i64 tr, .int .i64 sq, .string tx] 37 rfl
              have hu := agent_used_le (h6.at 1)
              rw [hn'] at hu
              have hu4 := nlt4 hu
              have HN' : Hid _ := hn'
              clear hn' hu
              go_wp2_with fail
              refine (agent_used (h6.at 1)).mono ?_
              rintro e wu ⟨rfl, hu1⟩
              go_wp2_with fail
              refine (law_config hu1).mono ?_
              rintro e wc ⟨rfl, hu2⟩
              clear hu1
              go_wp2
              go_roundw
              case rel => exact ⟨k + 1, { m with k := k' }, by omega, by go_num, hB', HN'.out, ((hu2.at 1).drop.at 1).drop⟩
              case measure => simp [intOf]; omega
        by_cases e2 : ok = 2
        · subst e2
          have hn' := (crumb_n m ot on).trans HNN.out
          have hB' := (hB.crumb ot on).mono (Nat.le_succ k)
          have H1 := agent_crumb (hbx.at 1) (hB.ok (by omega)) ot on
          generalize (m.crumb ot on) = r at hn' hB' H1
          go_wp2_with fail
          refine H1.mono ?_
          rintro e w6 ⟨rfl, h5⟩
          have hu := agent_used_le h5
          rw [hn'] at hu
          have hu4 := nlt4 hu
          have HN' : Hid _ := hn'
          clear hn' hu
          go_wp2_with fail
          refine (agent_used h5).mono ?_
          rintro e wu ⟨rfl, hu1⟩
          go_wp2_with fail
          refine (law_config hu1).mono ?_
          rintro e wc ⟨rfl, hu2⟩
          clear hu1
          go_wp2
          go_roundw
          case rel => exact ⟨k + 1, r.2, by omega, by go_num, hB', HN'.out, (hu2.at 1).drop⟩
          case measure => simp [intOf]; omega
        by_cases e3 : ok = 3
        · subst e3
          have hn' := (trigger_n m ot on).trans HNN.out
          have hB' := (hB.trigger ot on)
          have H1 := agent_trigger (hbx.at 1) (hB.ok (by omega)) ot on
          generalize (m.trigger ot on) = r at hn' hB' H1
          go_wp2_with fail
          refine H1.mono ?_
          rintro e w6 ⟨he, h5⟩
          obtain ⟨ev, rfl⟩ : ∃ ev, e = .returned ev := ⟨_, he⟩
          clear he
          have hu := agent_used_le h5
          rw [hn'] at hu
          have hu4 := nlt4 hu
          have HN' : Hid _ := hn'
          clear hn' hu
          go_wp2_with fail
          refine (agent_used h5).mono ?_
          rintro e wu ⟨rfl, hu1⟩
          go_wp2_with fail
          refine (law_config hu1).mono ?_
          rintro e wc ⟨rfl, hu2⟩
          clear hu1
          go_wp2
          go_roundw
          case rel => exact ⟨k + 1, r.2, by omega, by go_num, hB', HN'.out, (hu2.at 1).drop⟩
          case measure => simp [intOf]; omega
        by_cases e4 : ok = 4
        · subst e4
          have hn' := (tick_n m).trans HNN.out
          have hB' := (hB.tick).mono (Nat.le_succ k)
          have H1 := agent_tick (hbx.at 1) (hB.ok (by omega))
          generalize hmt : m.tick = m' at hn' hB' H1
          clear hmt
          go_wp2_with fail
          refine H1.mono ?_
          rintro e w6 ⟨v6, rfl, h5a, hv6⟩
          clear hv6
          have h5 := h5a.drop
          clear h5a
          have hu := agent_used_le h5
          rw [hn'] at hu
          have hu4 := nlt4 hu
          have HN' : Hid _ := hn'
          clear hn' hu
          go_wp2_with fail
          refine (agent_used h5).mono ?_
          rintro e wu ⟨rfl, hu1⟩
          go_wp2_with fail
          refine (law_config hu1).mono ?_
          rintro e wc ⟨rfl, hu2⟩
          clear hu1
          go_wp2
          go_roundw
          case rel => exact ⟨k + 1, m', by omega, by go_num, hB', HN'.out, (hu2.at 1).drop⟩
          case measure => simp [intOf]; omega
        have f1 : (ok == 1) = false := by simpa using e1
        have f2 : (ok == 2) = false := by simpa using e2
        have f3 : (ok == 3) = false := by simpa using e3
        have f4 : (ok == 4) = false := by simpa using e4
        clear e1 e2 e3 e4
        go_wp2_with fail
        refine (law_message hbx ⟨ok, ot, on, os⟩).mono ?_
        rintro e w6 ⟨rfl, h5z⟩
        have H1 := hear_op (h5z.at 1) hB (by omega) ⟨ok, ot, on, os⟩
        have hB' := (hB.hear (OpM.msg ⟨ok, ot, on, os⟩)).mono (Nat.le_succ k)
        have hn' := (hear_n m (OpM.msg ⟨ok, ot, on, os⟩)).trans HNN.out
        generalize (OpM.msg ⟨ok, ot, on, os⟩).val = mv at H1 ⊢
        generalize (m.hear (OpM.msg ⟨ok, ot, on, os⟩)) = r at hn' hB' H1
        go_wp2_with fail
        refine H1.mono ?_
        rintro e w7 ⟨v1, u1, rfl, h5a⟩
        have h5 := (h5a.drop).drop
        clear h5a h5z
        have hu := agent_used_le h5
        rw [hn'] at hu
        have hu4 := nlt4 hu
        have HN' : Hid _ := hn'
        clear hn' hu
        go_wp2_with fail
        refine (agent_used h5).mono ?_
        rintro e wu ⟨rfl, hu1⟩
        go_wp2_with fail
        refine (law_config hu1).mono ?_
        rintro e wc ⟨rfl, hu2⟩
        clear hu1
        go_wp2
        go_roundw
        case rel => exact ⟨k + 1, r.2, by omega, by go_num, hB', HN'.out, (hu2.at 1).drop⟩
        case measure => simp [intOf]; omega
      · obtain rfl : k = l.length := by omega
        have hlt' : ¬ (l.length : Int) < (l.length : Int) := by omega
        go_wp2
        go_ret
        exact ⟨rfl, hS.drop⟩
end
end Go.Proofs.YtkjggglmemafgaaGreat
