import Derived.Test.YtkjggglmemafgaaGreatLawFr
namespace Go.Proofs.YtkjggglmemafgaaGreat
open Go Go.RowKit
set_option linter.unusedVariables false
set_option linter.unusedSimpArgs false
set_option maxRecDepth 1000000

theorem frT (t : Int) : 1 ≤ wrap64 (1 + wrap64 ((IntKind.u64.wrap t).tmod 9)) ∧ wrap64 (1 + wrap64 ((IntKind.u64.wrap t).tmod 9)) ≤ 9 := by
  have h0 : 0 ≤ IntKind.u64.wrap t := by show 0 ≤ t % 18446744073709551616; omega
  generalize IntKind.u64.wrap t = x at h0 ⊢
  rw [Int.tmod_eq_emod_of_nonneg h0]
  unfold wrap64
  omega
theorem frJ (t : Int) : 100 ≤ wrap64 (100 + wrap64 ((IntKind.u64.wrap t).tmod 100)) ∧ wrap64 (100 + wrap64 ((IntKind.u64.wrap t).tmod 100)) ≤ 199 := by
  have h0 : 0 ≤ IntKind.u64.wrap t := by show 0 ≤ t % 18446744073709551616; omega
  generalize IntKind.u64.wrap t = x at h0 ⊢
  rw [Int.tmod_eq_emod_of_nonneg h0]
  unfold wrap64
  omega
section
variable {w : World}
set_option maxHeartbeats 4000000 in
theorem law_frees {v : Value} {l : List OpM} (h : OpsR (fun k => k < w.heap.size) w v l) (hl : (l.length : Int) ≤ 9223372036854775807) (t j : Int) : Calls Tryz.prog 3 #[v, .int .i64 t, .int .i64 j] w (AwPost w [oldA w]) := by
  obtain ⟨va, vc, rfl, hvc, -⟩ := Rs.shape h
  have hS0 := St.start w
  go_enter Tryz.func3, Tryz.ntmps3
  go_wp2_with fail
  refine (law_awake hS0).mono ?_
  rintro e w1 ⟨rfl, h1⟩
  go_wp2_with fail
  have hT := frT t
  have hJ := frJ j
  generalize wrap64 (1 + wrap64 ((IntKind.u64.wrap t).tmod 9)) = T at hT ⊢
  generalize wrap64 (100 + wrap64 ((IntKind.u64.wrap j).tmod 100)) = J at hJ ⊢
  have HW : Hid (fewS l = true → l.length ≤ 200) := (fun h => by unfold fewS at h; simp at h; exact h.2 : fewS l = true → l.length ≤ 200)
  refine (law_few (fun k => k < w.heap.size) w1 (.slice va l.length vc) l (Rs.fr h h1.old (fun _ _ h => h)) (fun k hk => Nat.lt_of_lt_of_le hk h1.old.size) hl).mono ?_
  rintro e w2 ⟨rfl, hF⟩
  have h2 := h1.fr hF
  clear h1 hF hS0
  cases hfew : fewS l with
  | false =>
    clear hfew HW
    go_wp2_with fail
    refine (law_awake h2).mono ?_
    rintro e w3 ⟨rfl, h3⟩
    go_wp2
    go_ret
    exact ⟨rfl, h3⟩
  | true =>
    have hlen : l.length ≤ 200 := HW.out hfew
    clear hfew HW
    go_wp2_with fail
    refine (law_config h2).mono ?_
    rintro e w3 ⟨rfl, h3⟩
    go_wp2_with fail
    refine (agent_new h3 1 cfg0 (by decide) (by decide) (by decide) (by decide) (by decide)).mono ?_
    rintro e w4 ⟨a, rfl, h4⟩
    clear h2 h3
    go_wp2
    go_loopw [46] (fun i wr => ∃ (k : Nat) (m : AgentM), k ≤ l.length ∧ i = .int .i64 k ∧ AgB m k ∧ FrI m ∧ St w [agentA a m, oldA w] wr) (fun i _ => l.length - (intOf i).toNat)
    case atStart => exact ⟨0, AgentM.new 1 cfg0, Nat.zero_le _, rfl, ag0_b, FrI.new, h4⟩
    case round =>
      obtain ⟨k, m, hk, rfl, hB, hI, hS⟩ := hrel
      have hk0 : (0 : Int) ≤ (k : Int) := by omega
      by_cases hlt : k < l.length
      · have hlt' : (k : Int) < (l.length : Int) := by omega
        obtain ⟨⟨ok, ot, on, os⟩, ho⟩ : ∃ o, l[k]? = some o := ⟨l[k], List.getElem?_eq_getElem hlt⟩
        obtain ⟨g, off, c', hv, c0, c1, c2, c3⟩ := OpsR.cells4 h (hS.at 1).old ho
        cases hv
        clear ho
        by_cases hn : 100 ≤ on
        · go_wp2
          go_ret
          exact ⟨rfl, (hS.skip _).drop⟩
        have hbx := hS.alloc [.int .i64 ok, .int .i64 ot, .int .i64 on, .string os] 35 rfl
        have hjob := opmsg_job ⟨ok, ot, on, os⟩ hn
        have HJOB : Hid _ := hjob
        clear hjob
        by_cases e1 : ok = 1
        · subst e1
          go_wp2_with fail
          refine (agent_span (hbx.at 1) (hB.ok (by omega)) ot os).mono ?_
          rintro e w5 ⟨rfl, h5⟩
          go_wp2
          go_roundw
          case rel => exact ⟨k + 1, _, by omega, by go_num, hB.span ot os, hI.span _, (h5.at 1).drop⟩
          case measure => simp [intOf]; omega
        by_cases e2 : ok = 2
        · subst e2
          go_wp2_with fail
          refine (agent_crumb (hbx.at 1) (hB.ok (by omega)) ot on).mono ?_
          rintro e w5 ⟨rfl, h5⟩
          go_wp2
          go_roundw
          case rel => exact ⟨k + 1, _, by omega, by go_num, (hB.crumb ot on).mono (Nat.le_succ k), hI.crumb _ _, (h5.at 1).drop⟩
          case measure => simp [intOf]; omega
        by_cases e34 : ok = 3 ∨ ok = 4
        · rcases e34 with e3 | e4
          · subst e3
            go_wp2
            go_roundw
            case rel => exact ⟨k + 1, m, by omega, by go_num, hB.mono (Nat.le_succ k), hI, hbx.drop⟩
            case measure => simp [intOf]; omega
          · subst e4
            go_wp2
            go_roundw
            case rel => exact ⟨k + 1, m, by omega, by go_num, hB.mono (Nat.le_succ k), hI, hbx.drop⟩
            case measure => simp [intOf]; omega
        have f1 : (ok == 1) = false := by simpa using e1
        have f2 : (ok == 2) = false := by simpa using e2
        have f3 : (ok == 3) = false := by simp; omega
        have f4 : (ok == 4) = false := by simp; omega
        clear e1 e2 e34
        go_wp2_with fail
        refine (law_message hbx ⟨ok, ot, on, os⟩).mono ?_
        rintro e w5 ⟨rfl, h5⟩
        have H1 := hear_op (h5.at 1) hB (by omega) ⟨ok, ot, on, os⟩
        have HR := (msg_val (fun _ => False) w5 ⟨ok, ot, on, os⟩)
        have HB2 := (hB.hear (OpM.msg ⟨ok, ot, on, os⟩)).mono (Nat.le_succ k)
        have HI2 := hI.hear (OpM.msg ⟨ok, ot, on, os⟩) HJOB.out
        clear HR
        generalize (OpM.msg ⟨ok, ot, on, os⟩).val = mv at H1 ⊢
        have HB3 : Hid _ := HB2
        have HI3 : Hid _ := HI2
        clear HB2 HI2 HJOB
        go_wp2_with fail
        refine H1.mono ?_
        rintro e w6 ⟨v1, u1, rfl, h6⟩
        go_wp2
        go_roundw
        case rel => exact ⟨k + 1, _, by omega, by go_num, HB3.out, HI3.out, (((h6.drop).drop).at 1).drop⟩
        case measure => simp [intOf]; omega
      · obtain rfl : k = l.length := by omega
        have hlt' : ¬ (l.length : Int) < (l.length : Int) := by omega
        have hE := hI.fin hT hJ
        clear hI
        obtain ⟨⟨p1, e1⟩, ⟨p2, e2⟩, ⟨p3, e3⟩, e4, j4, s4, c4, l4⟩ := hE
        have B1 := hB.hear (.pin T J)
        have B2 := B1.hear (.unpin T J)
        have B3 := B2.hear (.unpin T J)
        have B4 := B3.hear (.pin T J)
        have H1 := fun {W : World} {R : List Asn} (h : St w (agentA a m :: R) W) => hear_pin h hB (by omega) T J
        generalize hm1 : m.hear (.pin T J) = r1 at B1 B2 B3 B4 e1 e2 e3 e4 j4 s4 c4 l4 H1
        obtain ⟨⟨r1u, r1o⟩, m1⟩ := r1
        simp only [Prod.mk.injEq] at e1
        obtain ⟨rfl, rfl⟩ := e1
        simp only [] at B1 B2 B3 B4 e2 e3 e4 j4 s4 c4 l4
        have H2 := fun {W : World} {R : List Asn} (h : St w (agentA a m1 :: R) W) => hear_unpin h B1 (by omega) T J
        generalize hm2 : m1.hear (.unpin T J) = r2 at B2 B3 B4 e2 e3 e4 j4 s4 c4 l4 H2
        obtain ⟨⟨r2u, r2o⟩, m2⟩ := r2
        simp only [Prod.mk.injEq] at e2
        obtain ⟨rfl, rfl⟩ := e2
        simp only [] at B2 B3 B4 e3 e4 j4 s4 c4 l4
        have H3 := fun {W : World} {R : List Asn} (h : St w (agentA a m2 :: R) W) => hear_unpin h B2 (by omega) T J
        generalize hm3 : m2.hear (.unpin T J) = r3 at B3 B4 e3 e4 j4 s4 c4 l4 H3
        obtain ⟨⟨r3u, r3o⟩, m3⟩ := r3
        simp only [Prod.mk.injEq] at e3
        obtain ⟨rfl, rfl⟩ := e3
        simp only [] at B3 B4 e4 j4 s4 c4 l4
        have H4 := fun {W : World} {R : List Asn} (h : St w (agentA a m3 :: R) W) => hear_pin h B3 (by omega) T J
        generalize hm4 : m3.hear (.pin T J) = r4 at B4 e4 j4 s4 c4 l4 H4
        obtain ⟨⟨r4u, r4o⟩, m4⟩ := r4
        simp only [Prod.mk.injEq] at e4
        obtain ⟨rfl, rfl⟩ := e4
        simp only [] at B4 j4 s4 c4 l4
        clear hm1 hm2 hm3 hm4
        have HJ4 : Hid _ := j4
        have HS4 : Hid _ := s4
        have HC4 : Hid _ := c4
        have HL4 : Hid _ := l4
        clear j4 s4 c4 l4
        go_wp2_with fail
        refine (H1 hS).mono ?_
        rintro e w5 ⟨v1, u1, rfl, h5⟩
        skip
        obtain ⟨g1, o1, c1, q1, rfl, h5a⟩ := h5.one
        have h5b := ((h5a.drop).drop)
        clear h5 h5a H1 hS
        go_wp2_with fail
        refine (H2 h5b).mono ?_
        rintro e w6 ⟨v2, u2, rfl, h6⟩
        try simp only [] at h6
        obtain ⟨g2, o2, c2, q2, rfl, h6a⟩ := h6.one
        have h6b := ((h6a.drop).drop)
        clear h6 h6a H2 h5b
        go_wp2_with fail
        refine (H3 h6b).mono ?_
        rintro e w7 ⟨v3, u3, rfl, h7⟩
        try simp only [] at h7
        obtain ⟨g3, o3, c3, q3, rfl, h7a⟩ := h7.one
        have h7b := ((h7a.drop).drop)
        clear h7 h7a H3 h6b
        go_wp2_with fail
        refine (H4 h7b).mono ?_
        rintro e w8 ⟨v4, u4, rfl, h8⟩
        try simp only [] at h8
        obtain ⟨F4, hM4, -⟩ := h8.msgsR
        obtain ⟨a4, c4, hv4⟩ := hM4.lit
        have hv4' : v4 = .slice a4 0 c4 := hv4
        clear hv4
        subst hv4'
        have h8b := ((h8.drop).drop)
        clear h8 hM4 H4 h7b
        go_wp2_with fail
        refine (agent_job h8b T).mono ?_
        rintro e w9 ⟨rfl, rfl⟩
        rw [HJ4.out]
        go_wp2_with fail
        refine (agent_spans h8b T).mono ?_
        rintro e w10 ⟨v5, rfl, h10, hv5⟩
        obtain rfl := hv5.2 HS4.out
        clear hv5
        go_wp2_with fail
        refine (agent_crumbs (h10.at 1) (B4.ok (by omega)) T).mono ?_
        rintro e w11 ⟨v6, rfl, h11, hv6⟩
        obtain rfl := hv6.2 HC4.out
        clear hv6
        go_wp2_with fail
        refine (agent_lost (h11.at 1) T).mono ?_
        rintro e w12 ⟨rfl, rfl⟩
        rw [HL4.out]
        go_wp2
        go_ret
        exact ⟨rfl, ((h11.at 1).drop).drop.drop⟩
end
end Go.Proofs.YtkjggglmemafgaaGreat
