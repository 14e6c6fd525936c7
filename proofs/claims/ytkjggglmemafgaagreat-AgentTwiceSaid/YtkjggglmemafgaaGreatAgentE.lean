import Derived.Test.YtkjggglmemafgaaGreatAgentD
namespace Go.Proofs.YtkjggglmemafgaaGreat
open Go Go.RowKit
set_option linter.unusedVariables false
set_option linter.unusedSimpArgs false
set_option maxRecDepth 20000

section
variable {w0 w : World} {R : List Asn} {a : Nat} {m : AgentM}
def CollectS (w0 : World) (R : List Asn) (up over : List MsgM) (e : Ending) (w' : World) : Prop := ∃ v u, e = .returned (.tuple #[v, u]) ∧ St w0 (msgsA v up :: msgsA u over :: R) w'
/-! the chunks that come of span.Chunks -/
def ChsR (F : Nat → Prop) (w : World) (cv : Value) (cvs : List Value) (ll : List (List Sp)) : Prop :=
  cvs.length = ll.length ∧ Sl w 51 1 cv cvs.length cvs ∧ (∀ g, cv.ownBlock = some g → F g) ∧
    ∀ (i : Nat) (s : List Sp) (u : Value), ll[i]? = some s → cvs[i]? = some u → Sl w 37 3 u s.length (spCs s) ∧ ∀ g, u.ownBlock = some g → F g
def chsA (cv : Value) (cvs : List Value) (ll : List (List Sp)) : Asn := ⟨fun F w => ChsR F w cv cvs ll ∧ Bd F w, fun h => h.2, fun h hf hs => ⟨⟨h.1.1, h.1.2.1.fr hf (fun g hg => hs g (h.1.2.2.1 g hg)), h.1.2.2.1, fun i s u h1 h2 => ⟨(h.1.2.2.2 i s u h1 h2).1.fr hf (fun g hg => hs g ((h.1.2.2.2 i s u h1 h2).2 g hg)), (h.1.2.2.2 i s u h1 h2).2⟩⟩, h.2.fr hf⟩⟩
theorem chs_of {l : List Sp} {e : Ending} {w' : World} (h : St w0 R w) (hp : ChunksPost w l e w') : ∃ cv cvs, e = .returned cv ∧ St w0 (chsA cv cvs (chunksS l) :: R) w' := by
  obtain ⟨cv, cvs, rfl, h1, h2, h3, h4, h5⟩ := hp
  refine ⟨cv, cvs, rfl, h.new h5 ⟨⟨h1, h2, fun g hg => ⟨h3 g hg, h2.lt hg⟩, fun i s u hs hu => ?_⟩, fun k hk => hk.2⟩⟩
  obtain ⟨q1, q2, -⟩ := h4 i s u hs hu
  exact ⟨q1, fun g hg => ⟨q2 g hg, q1.lt hg⟩⟩
def mcV (id t j n : Int) (x : Value × Nat) : Value := .iface 141 (.agg #[.int .i64 id, .int .i64 t, .int .i64 j, .int .i64 x.2, .int .i64 n, x.1])
def mcM (id t j n : Int) (x : List Sp × Nat) : MsgM := .chunk id t j x.2 n x.1
theorem St.msgsChunks {id t j n : Int} {ov cv : Value} {cvs : List Value} {ll : List (List Sp)} (h : St w0 (slA 45 1 ov cvs.length (cvs.zipIdx.map (mcV id t j n)) :: chsA cv cvs ll :: R) w) : St w0 (msgsA ov (ll.zipIdx.map (mcM id t j n)) :: R) w := by
  refine (St.fold [_, _] h).head fun F hF => ?_
  have bd := Asn.bd _ hF
  obtain ⟨F1, F2, d1, e1, ⟨hS, hSf, b1⟩, F3, F4, d2, e2, ⟨⟨hl, hC, hCf, hi⟩, b2⟩, -⟩ := hF
  refine ⟨⟨cvs.zipIdx.map (mcV id t j n), ?_, ?_, fun i u q hu hq => ?_⟩, bd⟩
  · simp [hl]
  · have := Rs.of_sl hS (F := F) (fun g hg => (e1 g).2 (.inl (hSf g hg)))
    simpa [← hl] using this
  · rw [List.getElem?_map, List.getElem?_zipIdx] at hu hq
    cases hc : cvs[i]? with
    | none => rw [hc] at hu; simp at hu
    | some c =>
      cases hs : ll[i]? with
      | none => rw [hs] at hq; simp at hq
      | some s =>
        rw [hc] at hu; rw [hs] at hq
        simp at hu hq; subst hu hq
        obtain ⟨q1, q2⟩ := hi i s c hs hc
        exact ⟨c, by simp [mcV], Rs.of_sl q1 (fun g hg => (e1 g).2 (.inr ((e2 g).2 (.inl (q2 g hg)))))⟩
theorem el_msg : El Tryz.prog 41 45 1 16 := El.mk' (z := .nilIface) (by kernel_rfl) (by kernel_rfl) rfl (by decide)
def AgentM.collect (m : AgentM) (t j : Int) : List MsgM × List MsgM :=
  if m.l.job t = j then ([], (chunksS (get m.k.P.m t [])).zipIdx.map (mcM m.id t j (chunksS (get m.k.P.m t [])).length))
  else if j ≤ m.done t then ([], []) else ([.gone m.id t j], [])
theorem agent_collect_not (h : St w0 (agentA a m :: R) w) (t j : Int) (hj : m.l.job t ≠ j) : Calls Tryz.prog 50 #[.pointer (some ⟨a,0,none⟩), .agg #[.int .i64 t, .int .i64 j]] w (CollectS w0 (agentA a m :: R) (m.collect t j).1 (m.collect t j).2) := by
  obtain ⟨x, hE, h1⟩ := agent_open h
  have h2 := h1.alloc [.int .i64 t, .int .i64 j] 99 rfl
  have hdn : get x.Ld t 0 = m.done t := hE.done t
  obtain ⟨W, hW⟩ : ∃ W, W = w.alloc (.cells #[.int .i64 t, .int .i64 j] 99) := ⟨_, rfl⟩
  rw [← hW] at h2
  have c3 := (h2.at 1).blk.get (i := 3) rfl
  have b0 := h2.blk.get (i := 0) rfl
  have b1 := h2.blk.get (i := 1) rfl
  have HJ := fun n => leaseS_job ((h2.drewN n).at 4) t
  have HW : Hid _ := hW
  have hj2 : ((m.l.job t : Int) == j) = false := by simp [hj]
  by_cases hd : j ≤ get x.Ld t 0
  · have HM : Hid (m.collect t j = ([], [])) := (by rw [AgentM.collect, if_neg hj, if_pos (by omega)] : m.collect t j = ([], []))
    have hd1 : decide (j ≤ get x.Ld t 0) = true := by simpa using hd
    clear hW hdn hj
    go_enter Tryz.func50, Tryz.ntmps50
    go_wp2
    rw [← HW.out]
    go_quiet ((go_at_call 46; exact quiet_same (HJ _)))
    have h3 := h2.drewN nq
    clear c3 b0 b1 HJ h2 HW
    generalize W.drewN nq = W1 at h3 ⊢
    have c5 := (h3.at 1).blk.get (i := 5) rfl
    have im := (h3.at 7).im
    have b0 := h3.blk.get (i := 0) rfl
    have b1 := h3.blk.get (i := 1) rfl
    go_wp2
    go_quiet (fail)
    have h4 := h3.drewN nq
    clear c5 im b0 b1 h3
    generalize W1.drewN nq = W2 at h4 ⊢
    go_wp2
    exact bodyPost_ret (v := .tuple #[.slice none 0 0, .slice none 0 0]) (by simp [results, Tryz.results50, go_sem]) rfl (by rw [HM.out]; exact ⟨_, _, rfl, (((agent_shut hE h4.drop).msgsNil).msgsNil)⟩)
  · have HM : Hid (m.collect t j = ([.gone m.id t j], [])) := (by rw [AgentM.collect, if_neg hj, if_neg (by omega)] : m.collect t j = _)
    have hd1 : decide (j ≤ get x.Ld t 0) = false := by simpa using hd
    clear hW hdn hj
    go_enter Tryz.func50, Tryz.ntmps50
    go_wp2
    rw [← HW.out]
    go_quiet ((go_at_call 46; exact quiet_same (HJ _)))
    have h3 := h2.drewN nq
    clear c3 b0 b1 HJ h2 HW
    generalize W.drewN nq = W1 at h3 ⊢
    have c5 := (h3.at 1).blk.get (i := 5) rfl
    have im := (h3.at 7).im
    have b0 := h3.blk.get (i := 0) rfl
    have b1 := h3.blk.get (i := 1) rfl
    go_wp2
    go_quiet (fail)
    have h4 := h3.drewN nq
    clear c5 im b0 b1 h3
    generalize W1.drewN nq = W2 at h4 ⊢
    have b0 := h4.blk.get (i := 0) rfl
    have b1 := h4.blk.get (i := 1) rfl
    have H1 := agent_gone (agent_shut hE h4.drop) t j
    go_wp2_with fail
    refine H1.mono ?_
    rintro e w3 ⟨v, rfl, h5⟩
    go_wp2
    exact bodyPost_ret (v := .tuple #[v, .slice none 0 0]) (by simp [results, Tryz.results50, go_sem]) rfl (by rw [HM.out]; exact ⟨_, _, rfl, (h5.msgsNil).at 1⟩)
set_option maxHeartbeats 1000000 in
theorem agent_collect_main (h : St w0 (agentA a m :: R) w) (t j : Int) (hj : m.l.job t = j) (hsp : ((get m.k.P.m t []).length : Int) ≤ 100000) : Calls Tryz.prog 50 #[.pointer (some ⟨a,0,none⟩), .agg #[.int .i64 t, .int .i64 j]] w (CollectS w0 (agentA a m :: R) (m.collect t j).1 (m.collect t j).2) := by
  obtain ⟨x, hE, h1⟩ := agent_open h
  have h2 := h1.alloc [.int .i64 t, .int .i64 j] 99 rfl
  obtain ⟨W, hW⟩ : ∃ W, W = w.alloc (.cells #[.int .i64 t, .int .i64 j] 99) := ⟨_, rfl⟩
  rw [← hW] at h2
  have c3 := (h2.at 1).blk.get (i := 3) rfl
  have b0 := h2.blk.get (i := 0) rfl
  have b1 := h2.blk.get (i := 1) rfl
  have HJ := fun n => leaseS_job ((h2.drewN n).at 4) t
  have HW : Hid _ := hW
  have hj2 : ((m.l.job t : Int) == j) = true := by simp [hj]
  have HM : Hid (m.collect t j = ([], (chunksS (get m.k.P.m t [])).zipIdx.map (mcM m.id t j (chunksS (get m.k.P.m t [])).length))) := (by rw [AgentM.collect, if_pos hj] : m.collect t j = _)
  clear hW hj
  go_enter Tryz.func50, Tryz.ntmps50
  go_wp2
  rw [← HW.out]
  go_quiet ((go_at_call 46; exact quiet_same (HJ _)))
  have h3 := h2.drewN nq
  clear c3 b0 b1 HJ h2 HW
  generalize W.drewN nq = W1 at h3 ⊢
  have c1 := (h3.at 1).blk.get (i := 1) rfl
  have b0 := h3.blk.get (i := 0) rfl
  have H1 := keepS_spans ((h3.drew).at 2) t
  go_wp2
  go_region_held3 (fun W => W.cell? ⟨a, 1, none⟩ = some (.pointer (some ⟨x.k, 0, none⟩)) ∧ W.cell? ⟨w.heap.size, 0, none⟩ = some (.int .i64 t))
    (first | exact ⟨c1, b0⟩ | exact ⟨d1, q0⟩ | exact ⟨f1, s0⟩)
    (first
      | (go_at_call 53; refine H1.mono ?_; rintro e w5 ⟨sv, rfl, h7, -⟩; obtain ⟨sva, svc, rfl⟩ := h7.sl.lit; have d1 := (h7.at 3).blk.get (i := 1) rfl; have q0 := (h7.at 2).blk.get (i := 0) rfl)
      | (go_at_call 101; refine (span_chunks _ _ _ _ (Rs.of_sl h7.sl (F := fun k => k < w5.heap.size) (fun g hg => h7.sl.lt hg)) (fun k hk => hk) hsp).mono ?_; rintro e w6 hC; obtain ⟨cv, cvs, rfl, h8⟩ := chs_of h7 hC; have f1 := (h8.at 4).blk.get (i := 1) rfl; have s0 := (h8.at 3).blk.get (i := 0) rfl))
  have hcl : cvs.length = (chunksS (get m.k.P.m t [])).length := by obtain ⟨F, hF⟩ := h8.hd; exact hF.1.1
  have hcb : cvs.length ≤ 60000 := by rw [hcl]; unfold chunksS; split <;> simp <;> omega
  obtain ⟨cva, cvc, rfl⟩ : ∃ a c, cv = .slice a cvs.length c := by obtain ⟨F, hF⟩ := h8.hd; exact hF.1.2.1.lit
  have hmx : (cvs.length : Int) ≤ 9223372036854775807 := by omega
  have h9 := h8.slNil 45 1
  clear c1 b0 h3 H1 h7 d1 q0 f1 s0
  have HCL : Hid _ := hcl
  clear hcl hsp
  go_wp2
  go_loopw [5, 47] (fun ov i wr => ∃ k : Nat, k ≤ cvs.length ∧ i = .int .i64 k ∧ St w0 (slA 45 1 ov k ((cvs.zipIdx.map (mcV m.id t j cvs.length)).take k) :: chsA (.slice cva cvs.length cvc) cvs (chunksS (get m.k.P.m t [])) :: spansA (.slice sva (get m.k.P.m t []).length svc) (get m.k.P.m t []) :: keepA x.k m.k :: blkA w.heap.size 99 [.int .i64 t, .int .i64 j] :: blkA a 107 [.int .i64 m.id, .pointer (some ⟨x.k, 0, none⟩), .pointer (some ⟨x.c, 0, none⟩), .pointer (some ⟨x.l, 0, none⟩), .slice (some ⟨x.bb, x.bo, none⟩) 4 x.cap, .map (some x.db)] :: (agentL a m x).drop 2 ++ R) wr) (fun _ i _ => cvs.length - (intOf i).toNat)
  case atStart => exact ⟨0, Nat.zero_le _, rfl, h9⟩
  case round =>
    obtain ⟨k, hk, rfl, hS⟩ := hrel
    have hk0 : (0 : Int) ≤ (k : Int) := by omega
    obtain ⟨la, lc, hlv⟩ := hS.sl.lit
    subst hlv
    by_cases hlt : k < cvs.length
    · have hlt' : (k : Int) < (cvs.length : Int) := by omega
      obtain ⟨u, hu⟩ : ∃ y, cvs[k]? = some y := ⟨cvs[k], List.getElem?_eq_getElem hlt⟩
      have hC : Sl wr 51 1 (.slice cva cvs.length cvc) cvs.length cvs := by obtain ⟨F, hF⟩ := (hS.at 1).hd; exact hF.1.2.1
      obtain ⟨g, off, cap, hv, -⟩ := hC.form (by omega)
      cases hv
      have hcell := hC.cells rfl k u hu
      obtain ⟨sc, hsc⟩ : ∃ y, (chunksS (get m.k.P.m t []))[k]? = some y := ⟨(chunksS (get m.k.P.m t []))[k]'(by rw [← HCL.out]; exact hlt), List.getElem?_eq_getElem _⟩
      obtain ⟨ua, uc, hul⟩ : ∃ a c, u = .slice a sc.length c := by obtain ⟨F, hF⟩ := (hS.at 1).hd; exact (hF.1.2.2.2 k sc u hsc hu).1.lit
      subst hul
      clear hsc
      have c0 := (hS.at 5).blk.get (i := 0) rfl
      have b0 := (hS.at 4).blk.get (i := 0) rfl
      have b1 := (hS.at 4).blk.get (i := 1) rfl
      have al := (hS.at 5).blk.lt
      have bl := (hS.at 4).blk.lt
      have HU : Hid _ := hu
      clear hu hC
      go_wp2
      go_region_held3 (fun W => W.cell? ⟨a, 0, none⟩ = some (.int .i64 m.id) ∧ W.cell? ⟨w.heap.size, 0, none⟩ = some (.int .i64 t) ∧ W.cell? ⟨w.heap.size, 1, none⟩ = some (.int .i64 j))
        (first | exact ⟨c0, b0, b1⟩ | exact ⟨d0, q0, q1⟩ | exact ⟨(World.cell?_alloc_lt _ _ _ al).trans c0, (World.cell?_alloc_lt _ _ _ bl).trans b0, (World.cell?_alloc_lt _ _ _ bl).trans b1⟩)
        ((refine step_append_sl _ (by rfl) _ _ _ (by rfl) el_msg (v := .slice la k lc) (n := k) (by rfl) (by exact (hS.skip _).drew.sl) (m := 1) (news := [mcV m.id t j cvs.length (.slice ua sc.length uc, k)]) (by rfl) (by exact (rd_one _ _ _ (by simp)).drew) (by rfl) (by simp [mcV, Value.oneCell']) (by omega) (by omega) ?_; intro v' w2 hs2 hg2 hb2 hn2; have hT := (hS.skip (.cells #[mcV m.id t j cvs.length (.slice ua sc.length uc, k)] 45)).drew.append hs2 hg2 hb2; have d0 := (hT.at 5).blk.get (i := 0) rfl; have q0 := (hT.at 4).blk.get (i := 0) rfl; have q1 := (hT.at 4).blk.get (i := 1) rfl))
      go_wp2
      go_roundw
      case rel =>
        refine ⟨k + 1, by omega, by go_num, ?_⟩
        rw [List.take_add_one, List.getElem?_map, List.getElem?_zipIdx, HU.out, Option.map_some, Option.map_some, Option.toList_some, Nat.zero_add]
        exact hT
      case measure => simp [intOf]; omega
    · obtain rfl : k = cvs.length := by omega
      have hlt' : ¬ (cvs.length : Int) < (cvs.length : Int) := by omega
      rw [List.take_of_length_le (by simp)] at hS
      have hX := (((((hS.msgsChunks (id := m.id) (t := t) (j := j) (n := cvs.length)).at 1).drop).at 2).drop)
      go_wp2
      exact bodyPost_ret (v := .tuple #[.slice none 0 0, .slice la cvs.length lc]) (by simp [results, Tryz.results50, go_sem]) rfl (by
        rw [HM.out, ← HCL.out]
        exact ⟨_, _, rfl, (((agent_shut (m := m) (x := x) (R := _ :: R) hE (((hX.at 2).at 1).back 7)).at 1).msgsNil)⟩)
theorem agent_collect (h : St w0 (agentA a m :: R) w) (t j : Int) (hsp : ((get m.k.P.m t []).length : Int) ≤ 100000) : Calls Tryz.prog 50 #[.pointer (some ⟨a,0,none⟩), .agg #[.int .i64 t, .int .i64 j]] w (CollectS w0 (agentA a m :: R) (m.collect t j).1 (m.collect t j).2) := by
  by_cases hj : m.l.job t = j
  · exact agent_collect_main h t j hj hsp
  · exact agent_collect_not h t j hj
end
end Go.Proofs.YtkjggglmemafgaaGreat
