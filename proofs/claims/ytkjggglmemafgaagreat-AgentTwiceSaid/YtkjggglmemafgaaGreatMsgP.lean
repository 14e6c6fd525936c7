import Derived.Test.YtkjggglmemafgaaGreatMsgR
namespace Go.Proofs.YtkjggglmemafgaaGreat
open Go Go.RowKit
set_option linter.unusedVariables false
set_option linter.unusedSimpArgs false
set_option maxRecDepth 20000

theorem flatMap_get {α β : Type} {n : Nat} {f : α → List β} (hf : ∀ x, (f x).length = n) : ∀ (l : List α) (k : Nat) (x : α) (i : Nat), l[k]? = some x → i < n → (l.flatMap f)[k * n + i]? = (f x)[i]?
  | [], k, x, i, h, _ => by simp at h
  | a :: l, 0, x, i, h, hi => by
    simp only [List.getElem?_cons_zero, Option.some.injEq] at h; subst h
    rw [List.flatMap_cons, Nat.zero_mul, Nat.zero_add, List.getElem?_append_left (by rw [hf]; exact hi)]
  | a :: l, k + 1, x, i, h, hi => by
    rw [List.flatMap_cons, List.getElem?_append_right (by rw [hf, Nat.add_mul]; omega), hf, show (k + 1) * n + i - n = k * n + i by rw [Nat.add_mul]; omega]
    exact flatMap_get hf l k x i (by simpa using h) hi
theorem PinsR.at {F : Nat → Prop} {w : World} {v : Value} {ps : List PinM} (h : PinsR F w v ps) {k : Nat} {p : PinM} (hp : ps[k]? = some p) :
    ∃ g off c ca cc, v = .slice (some ⟨g, off, none⟩) ps.length c ∧ IntsR F w (.slice ca p.crumbs.length cc) p.crumbs ∧ ∀ (i : Nat) (u : Value), (PinV p (.slice ca p.crumbs.length cc))[i]? = some u → w.cell? ⟨g, off + (k * 6 + i), none⟩ = some u := by
  obtain ⟨cvs, hl, hr, hc⟩ := h
  obtain ⟨hk, -⟩ := List.getElem?_eq_some_iff.1 hp
  have hk2 : k < cvs.length := by omega
  have hcv : cvs[k]? = some cvs[k] := List.getElem?_eq_getElem hk2
  have hz : (ps.zip cvs)[k]? = some (p, cvs[k]) := by rw [List.getElem?_zip_eq_some]; exact ⟨hp, hcv⟩
  have hI := hc k p _ hp hcv
  obtain ⟨ca, cc, he, hcc⟩ := Rs.shape hI
  have hlen : ((ps.zip cvs).flatMap fun x => PinV x.1 x.2).length = 6 * (ps.zip cvs).length := by
    generalize ps.zip cvs = L
    induction L with
    | nil => rfl
    | cons a L ih => rw [List.flatMap_cons, List.length_append, ih]; simp [PinV]; omega
  obtain ⟨g, off, c, hv, -, -⟩ := hr.form (by rw [hlen, List.length_zip]; omega)
  refine ⟨g, off, c, ca, cc, hv, he ▸ hI, fun i u hu => ?_⟩
  have hi : i < 6 := by have := (List.getElem?_eq_some_iff.1 hu).1; simpa [PinV] using this
  refine hr.cells hv _ _ ?_
  have := flatMap_get (n := 6) (f := fun x : PinM × Value => PinV x.1 x.2) (fun _ => rfl) (ps.zip cvs) k _ i hz hi
  rw [this, ← hu, he]
theorem PinsR.shape {F : Nat → Prop} {w : World} {v : Value} {ps : List PinM} (h : PinsR F w v ps) : ∃ a c, v = .slice a ps.length c ∧ ps.length ≤ c ∧ (a = none → c = 0) := by
  obtain ⟨cvs, -, hr, -⟩ := h; exact hr.shape
/-- how many a message holds: no more than memory does -/
def MsgM.fits : MsgM → Prop
  | .pinned p => (p.crumbs.length : Int) ≤ 1000000
  | .chunk _ _ _ _ _ s => (s.length : Int) ≤ 1000000
  | .manifest _ _ _ ps => (ps.length : Int) ≤ 1000000 ∧ ∀ p ∈ ps, (p.crumbs.length : Int) ≤ 1000000
  | _ => True

def okP (t j : Int) (p : PinM) : Bool := p.right && decide (p.trace = t) && decide (p.job = j)
theorem partsS_no {t j : Int} {ps : List PinM} {k : Nat} {p : PinM} (hp : ps[k]? = some p) (h : okP t j p = false) : partsS t j ps = false := by
  have : ps.all (fun p => p.right && decide (p.trace = t) && decide (p.job = j)) = false := by
    rw [List.all_eq_false]
    exact ⟨p, List.mem_of_getElem? hp, by unfold okP at h; rw [h]; decide⟩
  rw [partsS, this]; rfl
theorem partsS_yes {t j : Int} {ps : List PinM} (h : ∀ p ∈ ps, okP t j p = true) : partsS t j ps = (!ps.isEmpty && agentsS (ps.map (·.agent))) := by
  have : ps.all (fun p => p.right && decide (p.trace = t) && decide (p.job = j)) = true := List.all_eq_true.2 h
  rw [partsS, this]; rfl
set_option maxHeartbeats 1000000 in
theorem msg_parts (F : Nat → Prop) (w : World) (v : Value) (t j c : Int) (ps : List PinM) (h : PinsR F w v ps) (hF : Bd F w) (hfit : (ps.length : Int) ≤ 1000000 ∧ ∀ p ∈ ps, (p.crumbs.length : Int) ≤ 1000000) :
    Calls Tryz.prog 96 #[.agg #[.int .i64 t, .int .i64 j, .int .i64 c, v]] w (RetB (partsS t j ps) w) := by
  obtain ⟨va, vc, rfl, hvc, -⟩ := h.shape
  obtain ⟨W0, hW0⟩ : ∃ W0, W0 = w.alloc (.cells #[.int .i64 t, .int .i64 j, .int .i64 c, .slice va ps.length vc] 144) := ⟨_, rfl⟩
  have f0 : Fr (fun _ => False) w W0 := by rw [hW0]; exact (Fr.refl _ w).alloc _
  have B0 : Blk W0 w.heap.size 144 [.int .i64 t, .int .i64 j, .int .i64 c, .slice va ps.length vc] := by rw [hW0]; exact Blk.new _ _ _
  have h0 := h.fr f0 (fun _ _ h => h)
  have HS : St W0 [slA 3 1 (.slice none 0 0) 0 [], oldA W0] W0 := (St.start W0).slNil _ _
  have hl := hfit.1
  have HW : Hid _ := hW0
  clear h
  go_enter Tryz.func96, Tryz.ntmps96
  go_wp2
  rw [← HW.out]
  go_loopw [3, 9] (fun lv i wr => ∃ (k : Nat), k ≤ ps.length ∧ i = .int .i64 k ∧ (∀ y ∈ ps.take k, okP t j y = true) ∧ St W0 [slA 3 1 lv k ((ps.take k).map fun p => Value.int .i64 p.agent), oldA W0] wr) (fun _ i _ => ps.length - (intOf i).toNat)
  case atStart => exact ⟨0, Nat.zero_le _, rfl, by simp, HS⟩
  case round =>
    obtain ⟨k, hk, rfl, hx, hS⟩ := hrel
    have hk0 : (0 : Int) ≤ (k : Int) := by omega
    have HX : Hid _ := hx
    have hF0 := (hS.at 1).old
    clear hx
    obtain ⟨la, lc, hlv⟩ := hS.sl.lit
    subst hlv
    by_cases hlt : k < ps.length
    · have hlt' : (k : Int) < (ps.length : Int) := by omega
      obtain ⟨p, hp⟩ : ∃ a, ps[k]? = some a := ⟨ps[k], List.getElem?_eq_getElem hlt⟩
      obtain ⟨g, off, c', ca, cc, hv, hcr, hcells⟩ := h0.at hp
      cases hv
      have hcl := hfit.2 p (List.mem_of_getElem? hp)
      have c0 : wr.cell? ⟨g, off + k * 6, none⟩ = _ := hF0.cell_some (hcells 0 _ rfl) (fun h => h)
      have c1 : wr.cell? ⟨g, off + k * 6 + 1, none⟩ = _ := hF0.cell_some (hcells 1 _ rfl) (fun h => h)
      have c2 : wr.cell? ⟨g, off + k * 6 + 2, none⟩ = _ := hF0.cell_some (hcells 2 _ rfl) (fun h => h)
      have c3 : wr.cell? ⟨g, off + k * 6 + 3, none⟩ = _ := hF0.cell_some (hcells 3 _ rfl) (fun h => h)
      have c4 : wr.cell? ⟨g, off + k * 6 + 4, none⟩ = _ := hF0.cell_some (hcells 4 _ rfl) (fun h => h)
      have c5 : wr.cell? ⟨g, off + k * 6 + 5, none⟩ = _ := hF0.cell_some (hcells 5 _ rfl) (fun h => h)
      have H1 : ∀ W, Fr (fun _ => False) wr W → Calls Tryz.prog 48 #[.iface 136 (.agg #[.int .i64 p.agent, .int .i64 p.trace, .int .i64 p.job, .int .i64 p.count, .slice ca p.crumbs.length cc, .bool p.lost])] W (RetB p.right W) := fun W hW =>
        msg_right_pinned F W _ p hcl ⟨_, rfl, (Rs.fr hcr hF0 (fun _ _ h => h)).fr hW (fun _ _ h => h)⟩
      have HC : Hid _ := hcells
      clear hcells hcr
      have HP : Hid _ := hp
      clear hp
      cases hr : p.right
      · have HN : Hid (okP t j p = false) := (by simp [okP, hr] : okP t j p = false)
        have HR : Hid _ := hr
        go_wp2_with fail
        refine (H1 _ (by repeat first | exact Fr.refl _ _ | refine Fr.drewN ?_ _ | refine Fr.alloc ?_ _)).mono ?_
        rintro e w2 ⟨rfl, hF2⟩
        clear hr
        rw [HR.out]
        go_wp2
        go_ret
        exact ⟨by rw [partsS_no HP.out HN.out]; rfl, (f0.trans hF0 (fun _ _ h => h)).trans ((by repeat first | exact Fr.refl _ _ | refine Fr.drewN ?_ _ | refine Fr.alloc ?_ _ : Fr (fun _ => False) wr _).trans hF2 (fun _ _ h => h)) (fun _ _ h => h)⟩
      · have HR : Hid _ := hr
        clear hr
        by_cases ht : p.trace = t
        · have ht' : ((p.trace : Int) != t) = false := by simp [ht]
          have HT : Hid _ := ht
          clear ht
          by_cases hj : p.job = j
          · have hj' : ((p.job : Int) != j) = false := by simp [hj]
            have HJ : Hid _ := hj
            clear hj
            have HN : Hid (okP t j p = true) := (by simp [okP, HR.out, HT.out, HJ.out] : okP t j p = true)
            go_wp2_with fail
            refine (H1 _ (by repeat first | exact Fr.refl _ _ | refine Fr.drewN ?_ _ | refine Fr.alloc ?_ _)).mono ?_
            rintro e w2 ⟨rfl, hF2⟩
            rw [HR.out]
            have hF3 : Fr (fun _ => False) wr w2 := (by repeat first | exact Fr.refl _ _ | refine Fr.drewN ?_ _ | refine Fr.alloc ?_ _ : Fr (fun _ => False) wr _).trans hF2 (fun _ _ h => h)
            have S2 := hS.fr hF3
            have B2 := B0.fr ((S2.at 1).old) (fun h => h)
            have d0 := B2.get (i := 0) rfl
            have d1 := B2.get (i := 1) rfl
            have e0 := hF2.cell_some (p := ⟨wr.heap.size, 0, none⟩) (v := .int .i64 p.agent) (by simp) (fun h => h)
            have e1 := hF2.cell_some (p := ⟨wr.heap.size, 1, none⟩) (v := .int .i64 p.trace) (by simp) (fun h => h)
            have e2 := hF2.cell_some (p := ⟨wr.heap.size, 2, none⟩) (v := .int .i64 p.job) (by simp) (fun h => h)
            go_wp2_with (at_builtin; refine wpList_append_sl _ rfl _ _ _ rfl el_int (v := .slice la k lc) rfl (S2.skip _).sl rfl (by exact rd_one _ _ _ (by simp)) (by rfl) (by simp [Value.oneCell']) (by omega) (by omega) ?_; intro v' w6 hs6 hg6 hb6 hn6; clear hn6; have s6 := (S2.skip _).append hs6 hg6 hb6)
            go_roundw
            case rel =>
              refine ⟨k + 1, by omega, by go_num, ?_, ?_⟩
              · intro y hy
                rw [List.take_add_one, HP.out] at hy
                rcases List.mem_append.1 hy with hy | hy
                · exact HX.out y hy
                · simp at hy; rw [hy]; exact HN.out
              · rw [List.take_add_one, HP.out]
                simpa using s6
            case measure => simp [intOf]; omega
          · have hj' : ((p.job : Int) != j) = true := by simp [hj]
            have HN : Hid (okP t j p = false) := (by simp [okP, hj] : okP t j p = false)
            clear hj
            go_wp2_with fail
            refine (H1 _ (by repeat first | exact Fr.refl _ _ | refine Fr.drewN ?_ _ | refine Fr.alloc ?_ _)).mono ?_
            rintro e w2 ⟨rfl, hF2⟩
            rw [HR.out]
            have hF3 : Fr (fun _ => False) wr w2 := (by repeat first | exact Fr.refl _ _ | refine Fr.drewN ?_ _ | refine Fr.alloc ?_ _ : Fr (fun _ => False) wr _).trans hF2 (fun _ _ h => h)
            have S2 := hS.fr hF3
            have B2 := B0.fr ((S2.at 1).old) (fun h => h)
            have d0 := B2.get (i := 0) rfl
            have d1 := B2.get (i := 1) rfl
            have e1 := hF2.cell_some (p := ⟨wr.heap.size, 1, none⟩) (v := .int .i64 p.trace) (by simp) (fun h => h)
            have e2 := hF2.cell_some (p := ⟨wr.heap.size, 2, none⟩) (v := .int .i64 p.job) (by simp) (fun h => h)
            go_wp2
            go_ret
            exact ⟨by rw [partsS_no HP.out HN.out]; rfl, (f0.trans hF0 (fun _ _ h => h)).trans hF3 (fun _ _ h => h)⟩
        · have ht' : ((p.trace : Int) != t) = true := by simp [ht]
          have HN : Hid (okP t j p = false) := (by simp [okP, ht] : okP t j p = false)
          clear ht
          go_wp2_with fail
          refine (H1 _ (by repeat first | exact Fr.refl _ _ | refine Fr.drewN ?_ _ | refine Fr.alloc ?_ _)).mono ?_
          rintro e w2 ⟨rfl, hF2⟩
          rw [HR.out]
          have hF3 : Fr (fun _ => False) wr w2 := (by repeat first | exact Fr.refl _ _ | refine Fr.drewN ?_ _ | refine Fr.alloc ?_ _ : Fr (fun _ => False) wr _).trans hF2 (fun _ _ h => h)
          have S2 := hS.fr hF3
          have B2 := B0.fr ((S2.at 1).old) (fun h => h)
          have d0 := B2.get (i := 0) rfl
          have e1 := hF2.cell_some (p := ⟨wr.heap.size, 1, none⟩) (v := .int .i64 p.trace) (by simp) (fun h => h)
          go_wp2
          go_ret
          exact ⟨by rw [partsS_no HP.out HN.out]; rfl, (f0.trans hF0 (fun _ _ h => h)).trans hF3 (fun _ _ h => h)⟩
    · obtain rfl : k = ps.length := by omega
      have hlt' : ¬ (ps.length : Int) < (ps.length : Int) := by omega
      have hall : ∀ p ∈ ps, okP t j p = true := by have := HX.out; rwa [List.take_of_length_le (Nat.le_refl _)] at this
      have HY : Hid _ := partsS_yes hall
      clear hall
      have H1 := msg_agents (fun _ => True) wr (.slice la ps.length lc) (ps.map (·.agent)) (by have := Rs.of_sl (F := fun _ => True) hS.sl (fun _ _ => trivial); rw [List.take_of_length_le (Nat.le_refl _)] at this; simpa [IntsR, Function.comp_def] using this) (by simpa using hl)
      by_cases he : ps = []
      · subst he
        go_wp2
        go_ret
        exact ⟨rfl, f0.trans hF0 (fun _ _ h => h)⟩
      · have hpos : 0 < ps.length := List.length_pos_iff.2 he
        have hpos' : (0 : Int) < (ps.length : Int) := by omega
        have HE : Hid (ps.isEmpty = false) := (by simp [he] : ps.isEmpty = false)
        clear he
        go_wp2_with fail
        refine H1.mono ?_
        rintro e w2 ⟨rfl, rfl⟩
        go_wp2
        go_ret
        exact ⟨by rw [HY.out, HE.out]; simp, f0.trans hF0 (fun _ _ h => h)⟩
set_option maxHeartbeats 1000000 in
theorem msg_right_manifest (F : Nat → Prop) (w : World) (v : Value) (t j c : Int) (ps : List PinM) (h : MsgR F w v (.manifest t j c ps)) (hF : Bd F w) (hfit : (MsgM.manifest t j c ps).fits) : Calls Tryz.prog 48 #[v] w (RetB (MsgM.manifest t j c ps).right w) := by
  have H1 : ∀ W, Fr (fun _ => False) w W → Calls Tryz.prog 89 #[v] W (OfPost W (t, j, true)) := fun W hW => msg_of F W v _ (h.fr hW (fun _ _ h => h))
  have H2 : ∀ W, Fr (fun _ => False) w W → Calls Tryz.prog 91 #[v] W (AgPost W (0, false)) := fun W hW => msg_agent F W v _ (h.fr hW (fun _ _ h => h))
  obtain ⟨pv, rfl, hp⟩ := h
  have HC : ∀ W, Fr (fun _ => False) w W → Calls Tryz.prog 96 #[.agg #[.int .i64 t, .int .i64 j, .int .i64 c, pv]] W (RetB (partsS t j ps) W) := fun W hW => msg_parts F W pv t j c ps (hp.fr hW (fun _ _ h => h)) (hF.fr hW) hfit
  obtain ⟨ca, cc, rfl, -⟩ := hp.shape
  cases hT : within t 1 65535
  · have HR : Hid ((MsgM.manifest t j c ps).right = false) := (by simp [MsgM.right, hT] : (MsgM.manifest t j c ps).right = false)
    rw [HR.out]
    go_enter Tryz.func48, Tryz.ntmps48
    go_wp2_with fail
    refine (H1 _ (Fr.refl _ _)).mono ?_
    rintro e w1 ⟨rfl, hF1⟩
    go_wp2_with (go_at_call 90; refine (msg_within _ _ _ _).mono ?_; rintro e w' ⟨rfl, rfl⟩)
    go_ret
    exact ⟨rfl, by repeat first | assumption | refine Fr.drewN ?_ _ | refine Fr.alloc ?_ _⟩
  · cases hJ : within j 1 1073741824
    · have HR : Hid ((MsgM.manifest t j c ps).right = false) := (by simp [MsgM.right, hJ] : (MsgM.manifest t j c ps).right = false)
      rw [HR.out]
      go_enter Tryz.func48, Tryz.ntmps48
      go_wp2_with fail
      refine (H1 _ (Fr.refl _ _)).mono ?_
      rintro e w1 ⟨rfl, hF1⟩
      go_wp2_with (go_at_call 90; refine (msg_within _ _ _ _).mono ?_; rintro e w' ⟨rfl, rfl⟩)
      refine (H2 _ (by repeat first | exact hF1 | refine Fr.drewN ?_ _ | refine Fr.alloc ?_ _)).mono ?_
      rintro e w2 ⟨rfl, hF2⟩
      have hG : Fr (fun _ => False) w w2 := (by repeat first | exact hF1 | refine Fr.drewN ?_ _ | refine Fr.alloc ?_ _ : Fr (fun _ => False) w _).trans hF2 (fun _ _ h => h)
      go_wp2_with (go_at_call 90; refine (msg_within _ _ _ _).mono ?_; rintro e w' ⟨rfl, rfl⟩)
      go_ret
      exact ⟨rfl, by repeat first | assumption | refine Fr.drewN ?_ _ | refine Fr.alloc ?_ _⟩
    · cases hC : within c 0 3
      · have HR : Hid ((MsgM.manifest t j c ps).right = false) := (by simp [MsgM.right, hC] : (MsgM.manifest t j c ps).right = false)
        rw [HR.out]
        go_enter Tryz.func48, Tryz.ntmps48
        go_wp2_with fail
        refine (H1 _ (Fr.refl _ _)).mono ?_
        rintro e w1 ⟨rfl, hF1⟩
        go_wp2_with (go_at_call 90; refine (msg_within _ _ _ _).mono ?_; rintro e w' ⟨rfl, rfl⟩)
        refine (H2 _ (by repeat first | exact hF1 | refine Fr.drewN ?_ _ | refine Fr.alloc ?_ _)).mono ?_
        rintro e w2 ⟨rfl, hF2⟩
        have hG : Fr (fun _ => False) w w2 := (by repeat first | exact hF1 | refine Fr.drewN ?_ _ | refine Fr.alloc ?_ _ : Fr (fun _ => False) w _).trans hF2 (fun _ _ h => h)
        go_wp2_with (go_at_call 90; refine (msg_within _ _ _ _).mono ?_; rintro e w' ⟨rfl, rfl⟩)
        go_ret
        exact ⟨rfl, by repeat first | assumption | refine Fr.drewN ?_ _ | refine Fr.alloc ?_ _⟩
      · have HR : Hid ((MsgM.manifest t j c ps).right = partsS t j ps) := (by simp [MsgM.right, hT, hJ, hC] : (MsgM.manifest t j c ps).right = partsS t j ps)
        rw [HR.out]
        go_enter Tryz.func48, Tryz.ntmps48
        go_wp2_with fail
        refine (H1 _ (Fr.refl _ _)).mono ?_
        rintro e w1 ⟨rfl, hF1⟩
        go_wp2_with (go_at_call 90; refine (msg_within _ _ _ _).mono ?_; rintro e w' ⟨rfl, rfl⟩)
        refine (H2 _ (by repeat first | exact hF1 | refine Fr.drewN ?_ _ | refine Fr.alloc ?_ _)).mono ?_
        rintro e w2 ⟨rfl, hF2⟩
        have hG : Fr (fun _ => False) w w2 := (by repeat first | exact hF1 | refine Fr.drewN ?_ _ | refine Fr.alloc ?_ _ : Fr (fun _ => False) w _).trans hF2 (fun _ _ h => h)
        go_wp2_with (go_at_call 90; refine (msg_within _ _ _ _).mono ?_; rintro e w' ⟨rfl, rfl⟩)
        refine (HC _ (by repeat first | exact hG | refine Fr.drewN ?_ _ | refine Fr.alloc ?_ _)).mono ?_
        rintro e w3 ⟨rfl, hF3⟩
        go_wp2
        go_ret
        exact ⟨rfl, (by repeat first | exact hG | refine Fr.drewN ?_ _ | refine Fr.alloc ?_ _ : Fr (fun _ => False) w _).trans hF3 (fun _ _ h => h)⟩
theorem msg_right (F : Nat → Prop) (w : World) (v : Value) (m : MsgM) (h : MsgR F w v m) (hF : Bd F w) (hfit : m.fits) : Calls Tryz.prog 48 #[v] w (RetB m.right w) := by
  cases m with
  | trigger a t c => exact msg_right_trigger F w v a t c h
  | pin t j => exact msg_right_pin F w v t j h
  | pinned p => exact msg_right_pinned F w v p hfit h
  | gone a t j => exact msg_right_gone F w v a t j h
  | collect t j => exact msg_right_collect F w v t j h
  | chunk a t j i n s => exact msg_right_chunk F w v a t j i n s hfit h
  | manifest t j c ps => exact msg_right_manifest F w v t j c ps h hF hfit
  | stored t j => exact msg_right_stored F w v t j h
  | unpin t j => exact msg_right_unpin F w v t j h
  | unpinned a t j => exact msg_right_unpinned F w v a t j h
  | none => exact msg_right_nil F w v h
end Go.Proofs.YtkjggglmemafgaaGreat
