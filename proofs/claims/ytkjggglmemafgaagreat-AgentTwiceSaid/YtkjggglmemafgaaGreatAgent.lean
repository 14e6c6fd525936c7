import Derived.Test.YtkjggglmemafgaaGreatCrumb
import Derived.Test.YtkjggglmemafgaaGreatMsgP
import Derived.Test.YtkjggglmemafgaaGreatChunk
import Derived.StillTailTactics
namespace Go.Proofs.YtkjggglmemafgaaGreat
open Go Go.RowKit
set_option linter.unusedVariables false
set_option linter.unusedSimpArgs false
set_option maxRecDepth 20000

/-! ### spoor/agent -/
structure AgentM where
  id : Int
  k : KeepM
  c : CrumbM
  l : LeaseM
  b : List BuckM
  done : Int → Int
structure AgX where
  k : Nat
  c : Nat
  l : Nat
  db : Nat
  bb : Nat
  bo : Nat
  cap : Nat
  bl : List (Nat × BuckM)
  Ld : List (Int × Int)
structure AgE (m : AgentM) (x : AgX) : Prop where
  b : x.bl.map (·.2) = m.b
  n : x.bl.length = 4
  cap : 4 ≤ x.cap
  done : ∀ t, get x.Ld t 0 = m.done t
def buck2A (x : Nat × BuckM) : Asn := buckA x.1 x.2
def agentL (a : Nat) (m : AgentM) (x : AgX) : List Asn :=
  [blkA a 107 [.int .i64 m.id, .pointer (some ⟨x.k, 0, none⟩), .pointer (some ⟨x.c, 0, none⟩), .pointer (some ⟨x.l, 0, none⟩), .slice (some ⟨x.bb, x.bo, none⟩) 4 x.cap, .map (some x.db)],
   keepA x.k m.k, crumbA x.c m.c, leaseA x.l m.l, slA 112 1 (.slice (some ⟨x.bb, x.bo, none⟩) 4 x.cap) 4 (x.bl.map fun y => .pointer (some ⟨y.1, 0, none⟩)), bigA buck2A x.bl, mapA x.db (mv (Value.int .i64) x.Ld)]
def agentA (a : Nat) (m : AgentM) : Asn := Ex fun x => sep (Pu (AgE m x) :: agentL a m x)
structure AgentOk (m : AgentM) : Prop where
  c : CrumbOk m.c
  l : LeaseOk m.l
  b : ∀ x ∈ m.b, BuckOk x
  done : ∀ t, 0 ≤ m.done t ∧ m.done t ≤ 1073741824
  small : m.k.gone.length + m.k.P.m.length ≤ 80000
theorem agent_open {w0 w : World} {R : List Asn} {a : Nat} {m : AgentM} (h : St w0 (agentA a m :: R) w) : ∃ x, AgE m x ∧ St w0 (agentL a m x ++ R) w := by
  obtain ⟨x, h⟩ := h.ex
  obtain ⟨hE, h3⟩ := (h.flat).pu
  exact ⟨x, hE, h3⟩
theorem agent_shut {w0 w : World} {R : List Asn} {a : Nat} {m : AgentM} {x : AgX} (hE : AgE m x) (h : St w0 (agentL a m x ++ R) w) : St w0 (agentA a m :: R) w :=
  St.exI x (St.fold (Pu (AgE m x) :: agentL a m x) (St.puI hE h))

section
variable {w0 w : World} {R : List Asn} {a : Nat} {m : AgentM}
theorem agent_span (h : St w0 (agentA a m :: R) w) (hok : AgentOk m) (t : Int) (s : ByteArray) : Calls Tryz.prog 12 #[.pointer (some ⟨a,0,none⟩), .int .i64 t, .string s] w
    (WriteS w0 (agentA a { m with k := (m.k.write t s).2.2 } :: R) (m.k.write t s).1 (m.k.write t s).2.1) := by
  obtain ⟨x, hE, h1⟩ := agent_open h
  have c1 := h1.blk.get (i := 1) rfl
  have h2 := h1.alloc [.int .i64 0, .int .i64 0, .string ByteArray.empty] 37 rfl
  have hbl := h1.blk.lt
  have H1 := keepS_write (h2.at 2) t s (by have := hok.small; omega)
  go_enter Tryz.func12, Tryz.ntmps12
  go_wp2_with fail
  refine H1.mono ?_
  rintro e w1 ⟨rfl, h3⟩
  obtain ⟨⟨tr, sq, tx⟩, er, k', hr⟩ : ∃ y er k', m.k.write t s = (y, er, k') := ⟨_, _, _, rfl⟩
  have HR : Hid _ := hr
  rw [hr] at h3 ⊢
  have hB := (h3.at 1).blk
  have d0 := hB.get (i := 0) rfl
  have d1 := hB.get (i := 1) rfl
  have d2 := hB.get (i := 2) rfl
  have z0 := hB.frozen 0
  have z1 := hB.frozen 1
  have z2 := hB.frozen 2
  clear hr hB
  simp only [errV]
  go_wp2
  have h4 := (((h3.at 1).set 0 (.int .i64 tr)).set 1 (.int .i64 sq)).set 2 (.string tx)
  have e0 := h4.blk.get (i := 0) rfl
  have e1 := h4.blk.get (i := 1) rfl
  have e2 := h4.blk.get (i := 2) rfl
  exact bodyPost_ret (v := errV ⟨tr, sq, tx⟩ er) (by simp [results, Tryz.results12, go_sem, e0, e1, e2, errV]) rfl (by rw [HR.out]; exact ⟨rfl, agent_shut (m := { m with k := k' }) (x := x) ⟨hE.b, hE.n, hE.cap, hE.done⟩ (h4.drop.back 1)⟩)
theorem agent_right (w : World) (t : Int) : Calls Tryz.prog 45 #[.int .i64 t] w fun e w' => e = .returned (.bool (decide (1 ≤ t ∧ t ≤ 65535))) ∧ w = w' := by
  by_cases h1 : 1 ≤ t
  · by_cases h2 : t ≤ 65535
    · have : decide (1 ≤ t ∧ t ≤ 65535) = true := by simp [h1, h2]
      rw [this]
      clear this
      go_enter Tryz.func45, Tryz.ntmps45
      go_wp2
      go_ret
      exact ⟨rfl, rfl⟩
    · have : decide (1 ≤ t ∧ t ≤ 65535) = false := by simp; omega
      rw [this]
      clear this
      go_enter Tryz.func45, Tryz.ntmps45
      go_wp2
      go_ret
      exact ⟨rfl, rfl⟩
  · have : decide (1 ≤ t ∧ t ≤ 65535) = false := by simp; omega
    rw [this]
    clear this
    go_enter Tryz.func45, Tryz.ntmps45
    go_wp2
    go_ret
    exact ⟨rfl, rfl⟩
def AgentM.crumb (m : AgentM) (t o : Int) : Int × AgentM := if ¬ (1 ≤ t ∧ t ≤ 65535) then (1, m) else if 0 < m.l.job t then (12, m) else ((m.c.add t o).1, { m with c := (m.c.add t o).2 })
theorem agent_crumb (h : St w0 (agentA a m :: R) w) (hok : AgentOk m) (t o : Int) : Calls Tryz.prog 13 #[.pointer (some ⟨a,0,none⟩), .int .i64 t, .int .i64 o] w (IntS w0 (agentA a (m.crumb t o).2 :: R) (m.crumb t o).1) := by
  obtain ⟨x, hE, h1⟩ := agent_open h
  have c2 := h1.blk.get (i := 2) rfl
  have c3 := h1.blk.get (i := 3) rfl
  have H0 := agent_right w t
  have H1 := leaseS_job (h1.at 3) t
  have H2 := crumbS_add (h1.at 2) hok.c t o
  by_cases hc : 1 ≤ t ∧ t ≤ 65535
  · rw [decide_eq_true hc] at H0
    by_cases hj : 0 < m.l.job t
    · have HM : Hid (m.crumb t o = (12, m)) := (by rw [AgentM.crumb, if_neg (by simpa using hc), if_pos hj] : m.crumb t o = (12, m))
      rw [HM.out]
      clear hc
      go_enter Tryz.func13, Tryz.ntmps13
      go_wp2_with (first | (go_at_call 45; refine H0.mono ?_; rintro e w' ⟨rfl, rfl⟩) | (go_at_call 46; refine H1.mono ?_; rintro e w' ⟨rfl, rfl⟩))
      go_ret
      exact ⟨rfl, h⟩
    · have HM : Hid (m.crumb t o = ((m.c.add t o).1, { m with c := (m.c.add t o).2 })) := (by rw [AgentM.crumb, if_neg (by simpa using hc), if_neg hj] : m.crumb t o = _)
      rw [HM.out]
      clear hc
      go_enter Tryz.func13, Tryz.ntmps13
      go_wp2_with (first | (go_at_call 45; refine H0.mono ?_; rintro e w' ⟨rfl, rfl⟩) | (go_at_call 46; refine H1.mono ?_; rintro e w' ⟨rfl, rfl⟩))
      refine H2.mono ?_
      rintro e w1 ⟨rfl, h3⟩
      go_wp2
      go_ret
      exact ⟨rfl, agent_shut (m := { m with c := (m.c.add t o).2 }) (x := x) ⟨hE.b, hE.n, hE.cap, hE.done⟩ (h3.back 2)⟩
  · have HM : Hid (m.crumb t o = (1, m)) := (by rw [AgentM.crumb, if_pos (by simpa using hc)] : m.crumb t o = (1, m))
    rw [HM.out]
    rw [decide_eq_false hc] at H0
    clear hc
    go_enter Tryz.func13, Tryz.ntmps13
    go_wp2_with fail
    refine H0.mono ?_
    rintro e w' ⟨rfl, rfl⟩
    go_wp2
    go_ret
    exact ⟨rfl, h⟩
theorem agent_spans (h : St w0 (agentA a m :: R) w) (t : Int) : Calls Tryz.prog 17 #[.pointer (some ⟨a,0,none⟩), .int .i64 t] w (SpansS w0 (agentA a m :: R) (get m.k.P.m t [])) := by
  obtain ⟨x, hE, h1⟩ := agent_open h
  have c1 := h1.blk.get (i := 1) rfl
  have H1 := keepS_spans (h1.at 1) t
  go_enter Tryz.func17, Tryz.ntmps17
  go_wp2_with fail
  refine H1.mono ?_
  rintro e w1 ⟨v, rfl, h3, hn⟩
  go_wp2
  go_ret
  exact ⟨v, rfl, (agent_shut (m := m) (x := x) hE ((h3.back 7).back 1)).at 1, hn⟩
theorem agent_crumbs (h : St w0 (agentA a m :: R) w) (hok : AgentOk m) (t : Int) : Calls Tryz.prog 18 #[.pointer (some ⟨a,0,none⟩), .int .i64 t] w (IntsS w0 (agentA a m :: R) (m.c.of t)) := by
  obtain ⟨x, hE, h1⟩ := agent_open h
  have c1 := h1.blk.get (i := 2) rfl
  have H1 := crumbS_of (h1.at 2) hok.c t
  go_enter Tryz.func18, Tryz.ntmps18
  go_wp2_with fail
  refine H1.mono ?_
  rintro e w1 ⟨v, rfl, h3, hn⟩
  go_wp2
  go_ret
  exact ⟨v, rfl, (agent_shut (m := m) (x := x) hE ((h3.back 7).back 2)).at 1, hn⟩
theorem agent_job (h : St w0 (agentA a m :: R) w) (t : Int) : Calls Tryz.prog 16 #[.pointer (some ⟨a,0,none⟩), .int .i64 t] w fun e w' => e = .returned (.int .i64 (m.l.job t)) ∧ w = w' := by
  obtain ⟨x, hE, h1⟩ := agent_open h
  have c1 := h1.blk.get (i := 3) rfl
  have H1 := leaseS_job (h1.at 3) t
  go_enter Tryz.func16, Tryz.ntmps16
  go_wp2_with fail
  refine H1.mono ?_
  rintro e w1 ⟨rfl, rfl⟩
  go_wp2
  go_ret
  exact ⟨rfl, rfl⟩
theorem agent_lost (h : St w0 (agentA a m :: R) w) (t : Int) : Calls Tryz.prog 19 #[.pointer (some ⟨a,0,none⟩), .int .i64 t] w fun e w' => e = .returned (.bool (m.k.lost t)) ∧ w = w' := by
  obtain ⟨x, hE, h1⟩ := agent_open h
  have c1 := h1.blk.get (i := 1) rfl
  have H1 := keepS_lost (h1.at 1) t
  go_enter Tryz.func19, Tryz.ntmps19
  go_wp2_with fail
  refine H1.mono ?_
  rintro e w1 ⟨rfl, rfl⟩
  go_wp2
  go_ret
  exact ⟨by simp, rfl⟩
theorem agent_used (h : St w0 (agentA a m :: R) w) : Calls Tryz.prog 22 #[.pointer (some ⟨a,0,none⟩)] w (IntS w0 (agentA a m :: R) m.k.P.used) := by
  obtain ⟨x, hE, h1⟩ := agent_open h
  have c1 := h1.blk.get (i := 1) rfl
  have H1 := keepS_used (h1.at 1)
  go_enter Tryz.func22, Tryz.ntmps22
  go_wp2_with fail
  refine H1.mono ?_
  rintro e w1 ⟨rfl, h3⟩
  go_wp2
  go_ret
  exact ⟨rfl, agent_shut (m := m) (x := x) hE (h3.back 1)⟩
theorem agent_evicted (h : St w0 (agentA a m :: R) w) (hok : AgentOk m) : Calls Tryz.prog 39 #[.pointer (some ⟨a,0,none⟩)] w (IntsS w0 (agentA a m :: R) m.k.gone) := by
  obtain ⟨x, hE, h1⟩ := agent_open h
  have c1 := h1.blk.get (i := 1) rfl
  have H1 := keepS_evicted (h1.at 1) (by have := hok.small; omega)
  go_enter Tryz.func39, Tryz.ntmps39
  go_wp2_with fail
  refine H1.mono ?_
  rintro e w1 ⟨v, rfl, h3, hn⟩
  go_wp2
  go_ret
  exact ⟨v, rfl, (agent_shut (m := m) (x := x) hE ((h3.back 7).back 1)).at 1, hn⟩
theorem at_split {α : Type} {l : List α} {i : Nat} {x : α} (h : l[i]? = some x) : l = l.take i ++ x :: l.drop (i + 1) := by
  obtain ⟨hi, rfl⟩ := List.getElem?_eq_some_iff.1 h
  rw [← List.drop_eq_getElem_cons hi, List.take_append_drop]
theorem set_same {α : Type} {l : List α} {i : Nat} {x : α} (h : l[i]? = some x) : l.set i x = l := by
  obtain ⟨hi, rfl⟩ := List.getElem?_eq_some_iff.1 h
  exact List.set_getElem_self hi
theorem set_split {α : Type} {l : List α} {i : Nat} (y : α) (h : i < l.length) : l.set i y = l.take i ++ y :: l.drop (i + 1) := by
  rw [List.set_eq_take_append_cons_drop, if_pos h]
theorem St.pickAt {ι : Type} {f : ι → Asn} {l : List ι} {i : Nat} {y : ι} (h : St w0 (bigA f l :: R) w) (hx : l[i]? = some y) : St w0 (f y :: bigA f (l.take i ++ l.drop (i + 1)) :: R) w := by
  rw [at_split hx] at h; exact h.pick
theorem St.unpickAt {ι : Type} {f : ι → Asn} {l : List ι} {i : Nat} {y : ι} (h : St w0 (f y :: bigA f (l.take i ++ l.drop (i + 1)) :: R) w) (hi : i < l.length) : St w0 (bigA f (l.set i y) :: R) w := by
  rw [set_split y hi]; exact h.unpick
def AgentM.trigger (m : AgentM) (t c : Int) : Int × AgentM :=
  if ¬ (1 ≤ t ∧ t ≤ 65535) ∨ c < 0 ∨ 4 ≤ c then (1, m)
  else match m.b[c.toNat]? with
    | none => (1, m)
    | some b => if b.take.1 then (0, { m with b := m.b.set c.toNat b.take.2 }) else (11, m)
def trigV (a t c : Int) : Value := .agg #[.int .i64 a, .int .i64 t, .int .i64 c]
def TrigS (w0 : World) (l : List Asn) (id t c er : Int) (e : Ending) (w' : World) : Prop := e = .returned (.tuple #[if er = 0 then trigV id t c else trigV 0 0 0, .int .i64 er]) ∧ St w0 l w'
theorem agent_trigger_bad (h : St w0 (agentA a m :: R) w) (t c : Int) (hb : ¬ (1 ≤ t ∧ t ≤ 65535) ∨ c < 0 ∨ 4 ≤ c) : Calls Tryz.prog 20 #[.pointer (some ⟨a,0,none⟩), .int .i64 t, .int .i64 c] w (TrigS w0 (agentA a (m.trigger t c).2 :: R) m.id t c (m.trigger t c).1) := by
  have HM : Hid (m.trigger t c = (1, m)) := (by rw [AgentM.trigger, if_pos hb] : m.trigger t c = (1, m))
  have h2 := h.alloc [.int .i64 0, .int .i64 0, .int .i64 0] 58 rfl
  have H0 := fun W => agent_right W t
  have h4 := ((h2.set 0 (.int .i64 0)).set 1 (.int .i64 0)).set 2 (.int .i64 0)
  have e0 := h4.blk.get (i := 0) rfl
  have e1 := h4.blk.get (i := 1) rfl
  have e2 := h4.blk.get (i := 2) rfl
  cases hd : decide (1 ≤ t ∧ t ≤ 65535)
  · rw [hd] at H0
    clear hb hd
    go_enter Tryz.func20, Tryz.ntmps20
    go_wp2_with (go_at_call 45; refine (H0 _).mono ?_; rintro e w' ⟨rfl, rfl⟩)
    exact bodyPost_ret (v := .tuple #[trigV 0 0 0, .int .i64 1]) (by simp [results, Tryz.results20, go_sem, trigV]) rfl (by rw [HM.out]; exact ⟨rfl, by first | exact h4.drop | exact h2.drop⟩)
  · have hb2 := hb.resolve_left (by simpa using hd)
    rw [hd] at H0
    clear hb hd
    by_cases h0 : c < 0
    all_goals
      go_enter Tryz.func20, Tryz.ntmps20
      go_wp2_with (go_at_call 45; refine (H0 _).mono ?_; rintro e w' ⟨rfl, rfl⟩)
      exact bodyPost_ret (v := .tuple #[trigV 0 0 0, .int .i64 1]) (by simp [results, Tryz.results20, go_sem, trigV]) rfl (by rw [HM.out]; exact ⟨rfl, by first | exact h4.drop | exact h2.drop⟩)
theorem agent_trigger (h : St w0 (agentA a m :: R) w) (hok : AgentOk m) (t c : Int) : Calls Tryz.prog 20 #[.pointer (some ⟨a,0,none⟩), .int .i64 t, .int .i64 c] w (TrigS w0 (agentA a (m.trigger t c).2 :: R) m.id t c (m.trigger t c).1) := by
  by_cases hb : ¬ (1 ≤ t ∧ t ≤ 65535) ∨ c < 0 ∨ 4 ≤ c
  · exact agent_trigger_bad h t c hb
  have ht : 1 ≤ t ∧ t ≤ 65535 := by omega
  obtain ⟨x, hE, h1⟩ := agent_open h
  obtain ⟨k, rfl⟩ := Int.eq_ofNat_of_zero_le (show 0 ≤ c by omega)
  have hk : k < 4 := by omega
  obtain ⟨⟨bb, bm⟩, hx⟩ : ∃ y, x.bl[k]? = some y := ⟨x.bl[k]'(by rw [hE.n]; exact hk), List.getElem?_eq_getElem _⟩
  have hmb : m.b[k]? = some bm := by rw [← hE.b, List.getElem?_map, hx]; rfl
  have hbo := hok.b bm (List.mem_of_getElem? hmb)
  have h2 := h1.alloc [.int .i64 0, .int .i64 0, .int .i64 0] 58 rfl
  have c0 := h1.blk.get (i := 0) rfl
  have c4 := h1.blk.get (i := 4) rfl
  have hcell := (h1.at 4).sl.cells rfl k (.pointer (some ⟨bb, 0, none⟩)) (by rw [List.getElem?_map, hx]; rfl)
  have hk0 : (0 : Int) ≤ (k : Int) := by omega
  have hk4 : (k : Int) < 4 := by omega
  have h4 : St w0 (buckA bb bm :: _) _ := (h2.at 6).pickAt hx
  have H1 := buckS_take h4 hbo
  have H0 := fun W => agent_right W t
  rw [decide_eq_true ht] at H0
  have hbl := h1.blk.lt
  have hbl2 := World.block_lt_of_cell? _ _ hcell
  cases htk : bm.take.1
  · have HM : Hid (m.trigger t k = (11, m)) := (by rw [AgentM.trigger, if_neg hb]; simp only [Int.toNat_natCast, hmb, htk]; simp : m.trigger t k = (11, m))
    have hid : bm.take.2 = bm := by unfold BuckM.take at htk ⊢; split at htk <;> simp_all
    rw [htk, hid] at H1
    clear hb htk hid
    go_enter Tryz.func20, Tryz.ntmps20
    go_wp2_with (first | (go_at_call 45; refine (H0 _).mono ?_; rintro e w' ⟨rfl, rfl⟩) | (go_at_call 56; refine H1.mono ?_; rintro e w' ⟨rfl, h5⟩; have bz := (h5.at 2).blk; have k0 := bz.get (i := 0) rfl; have k1 := bz.get (i := 1) rfl; have k2 := bz.get (i := 2) rfl; have z0 := bz.frozen 0; have z1 := bz.frozen 1; have z2 := bz.frozen 2; clear bz))
    have h6 : St w0 (bigA buck2A (x.bl.set k (bb, bm)) :: _) _ := St.unpickAt (f := buck2A) (y := (bb, bm)) h5 (by rw [hE.n]; exact hk)
    have hset : x.bl.set k (bb, bm) = x.bl := by rw [set_split _ (by rw [hE.n]; exact hk)]; exact (at_split hx).symm
    rw [hset] at h6
    have h7 := (((h6.at 1).set 0 (.int .i64 0)).set 1 (.int .i64 0)).set 2 (.int .i64 0)
    have e0 := h7.blk.get (i := 0) rfl
    have e1 := h7.blk.get (i := 1) rfl
    have e2 := h7.blk.get (i := 2) rfl
    exact bodyPost_ret (v := .tuple #[trigV 0 0 0, .int .i64 11]) (by simp [results, Tryz.results20, go_sem, trigV, e0, e1, e2]) rfl (by rw [HM.out]; exact ⟨rfl, agent_shut (m := m) (x := x) hE (h7.drop.back 5)⟩)
  · have HM : Hid (m.trigger t k = (0, { m with b := m.b.set k bm.take.2 })) := (by rw [AgentM.trigger, if_neg hb]; simp only [Int.toNat_natCast, hmb, htk]; simp : m.trigger t k = _)
    rw [htk] at H1
    clear hb htk
    go_enter Tryz.func20, Tryz.ntmps20
    go_wp2_with (first | (go_at_call 45; refine (H0 _).mono ?_; rintro e w' ⟨rfl, rfl⟩) | (go_at_call 56; refine H1.mono ?_; rintro e w' ⟨rfl, h5⟩; have d0 := (h5.at 3).blk.get (i := 0) rfl; have bz := (h5.at 2).blk; have k0 := bz.get (i := 0) rfl; have k1 := bz.get (i := 1) rfl; have k2 := bz.get (i := 2) rfl; have z0 := bz.frozen 0; have z1 := bz.frozen 1; have z2 := bz.frozen 2; clear bz))
    have h6 : St w0 (bigA buck2A (x.bl.set k (bb, bm.take.2)) :: _) _ := St.unpickAt (f := buck2A) (y := (bb, bm.take.2)) h5 (by rw [hE.n]; exact hk)
    have h7 := (((h6.at 1).set 0 (.int .i64 m.id)).set 1 (.int .i64 t)).set 2 (.int .i64 k)
    have e0 := h7.blk.get (i := 0) rfl
    have e1 := h7.blk.get (i := 1) rfl
    have e2 := h7.blk.get (i := 2) rfl
    have hptr : (x.bl.set k (bb, bm.take.2)).map (fun y => Value.pointer (some ⟨y.1, 0, none⟩)) = x.bl.map (fun y => Value.pointer (some ⟨y.1, 0, none⟩)) := by
      rw [List.map_set]; exact set_same (by rw [List.getElem?_map, hx]; rfl)
    have hE' : AgE { m with b := m.b.set k bm.take.2 } { x with bl := x.bl.set k (bb, bm.take.2) } := ⟨by simp [List.map_set, hE.b], by simp [hE.n], hE.cap, hE.done⟩
    have h8 := h7.drop.back 5
    exact bodyPost_ret (v := .tuple #[trigV m.id t k, .int .i64 0]) (by simp [results, Tryz.results20, go_sem, trigV, e0, e1, e2]) rfl (by rw [HM.out]; exact ⟨rfl, agent_shut (m := { m with b := m.b.set k bm.take.2 }) (x := { x with bl := x.bl.set k (bb, bm.take.2) }) hE' (by simp only [agentL, hptr]; exact h8)⟩)
end
end Go.Proofs.YtkjggglmemafgaaGreat
