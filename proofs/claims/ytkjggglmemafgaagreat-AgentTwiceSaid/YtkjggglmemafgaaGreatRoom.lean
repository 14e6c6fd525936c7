import Derived.Test.YtkjggglmemafgaaGreatEvict
import Derived.Deep.RegionHeld3
import Derived.Deep.RegionLaw
import Derived.Deep.Cut
namespace Go.Proofs.YtkjggglmemafgaaGreat
open Go Go.RowKit
set_option maxRecDepth 20000

theorem index_nil (w : World) (q : Addr) :
    Calls Tryz.prog 136 #[.slice none 0 0, .func (.func 122) #[] #[.pointer (some q)]] w (fun e w' => e = .returned (.int .i64 (-1)) ∧ w = w') := by
  go_enter Tryz.func136, Tryz.ntmps136
  go_wp2
  go_loopw [5, 8] (fun _ i wr => i = .int .i64 0 ∧ wr = w) (fun _ _ _ => 0)
  case atStart => exact ⟨rfl, rfl⟩
  case round =>
    obtain ⟨rfl, rfl⟩ := hrel
    go_wp2
    go_ret
    exact ⟨rfl, rfl⟩
theorem delete_nil (w : World) (q : Addr) :
    Calls Tryz.prog 120 #[.slice none 0 0, .func (.func 122) #[] #[.pointer (some q)]] w (fun e w' => e = .returned (.slice none 0 0) ∧ w = w') := by
  go_enter Tryz.func120, Tryz.ntmps120
  go_wp2_with fail
  refine (index_nil w q).mono ?_
  rintro e w1 ⟨rfl, rfl⟩
  go_wp2
  go_ret
  exact ⟨rfl, rfl⟩

theorem room_fn (w : World) (q : Addr) (b pb : Nat) (Lp : List (Int × Bool)) (pr : Int → Bool) (hq : w.cell? q = some (.pointer (some ⟨b, 0, none⟩))) (h2 : w.cell? ⟨b, 2, none⟩ = some (.map (some pb))) (ip : w.im pb = some (mv Value.bool Lp)) (ep : ∀ t, get Lp t false = pr t) : PrAt w q pr := by
  intro t
  rw [← ep]
  clear ep
  go_enter Tryz.func122, Tryz.ntmps122
  go_wp2
  go_ret
  exact ⟨rfl, rfl⟩

/-- the traces that are not pinned, a slice with no other owner -/
def MayPost (w : World) (l : List Int) (e : Ending) (w' : World) : Prop :=
  ∃ v, e = .returned v ∧ Sl w' 3 1 v l.length (l.map (Value.int .i64)) ∧ (∀ g, v.ownBlock = some g → w.heap.size ≤ g) ∧ Fr (fun k => w.heap.size ≤ k) w w'

/-- .. from the traces -/
theorem may_of (w w1 : World) (q : Addr) (b pb : Nat) (Lp : List (Int × Bool)) (pr : Int → Bool) (v : Value) (l : List Int) (hS : Sl w1 3 1 v l.length (l.map (Value.int .i64))) (hG : ∀ g, v.ownBlock = some g → w.heap.size ≤ g) (hF : Fr (fun _ => False) w w1)
    (hl : (l.length : Int) ≤ 100000) (hq : w.cell? q = some (.pointer (some ⟨b, 0, none⟩))) (h2 : w.cell? ⟨b, 2, none⟩ = some (.map (some pb))) (ip : w.im pb = some (mv Value.bool Lp)) (ep : ∀ t, get Lp t false = pr t) :
    Calls Tryz.prog 120 #[v, .func (.func 122) #[] #[.pointer (some q)]] w1 (MayPost w (l.filter fun x => !pr x)) := by
  have hF' : Fr (fun k => w.heap.size ≤ k) w w1 := hF.mono (fun _ _ h => h.elim)
  obtain ⟨rfl, h0⟩ | ⟨g, off, cap, rfl, hg, hcap, hmx⟩ := hS.shape
  · obtain rfl := List.eq_nil_of_length_eq_zero h0
    refine (delete_nil w1 q).mono ?_
    rintro e w2 ⟨rfl, rfl⟩
    exact ⟨_, rfl, Sl.nil _ _ _, by simp [Value.ownBlock], hF'⟩
  · have hgw := hG g rfl
    refine (delete_func w1 q pr g off l.length cap l rfl hS hl (fun W hW => ?_)).mono ?_
    · have f : Fr (fun k => w.heap.size ≤ k) w W := hF'.trans hW (fun k _ e => by omega)
      have b1 := World.block_lt_of_cell? w _ hq
      have b2 := World.block_lt_of_cell? w _ h2
      have b3 := im_lt ip
      exact room_fn W q b pb Lp pr (f.cell_some hq (by omega)) (f.cell_some h2 (by omega)) (f.im ip (by omega)) ep
    · rintro e w2 ⟨v2, rfl, h3, h4, h5⟩
      exact ⟨v2, rfl, h3, fun x hx => by rw [h4] at hx; cases hx; exact hgw, hF'.trans h5 (fun k _ e => by omega)⟩

def KeepM.may (m : KeepM) : List Int := (m.P.m.map (·.1)).filter fun x => !m.pins x
def KeepM.room (m : KeepM) (t : Int) : Int × KeepM :=
  if m.may = [] then (6, { m with lost := setT m.lost t true })
  else
    let x := leastS m.seed (m.may ++ [t])
    (if x = t then 10 else 0, { m with P := m.P.drop x, lost := setT m.lost x true, gone := m.gone ++ [x] })

theorem KeepR.setGone {F Fp : Nat → Prop} {w w6 : World} {b p pb lb : Nat} {gv v' : Value} {Lp Ll : List (Int × Bool)} {m : KeepM} {x : Int} (h : KeepR F Fp w b p pb lb gv Lp Ll m)
    (hf : Fr (fun k => gv.ownBlock = some k) w w6) (hs : Sl w6 3 1 v' (m.gone.length + 1) (m.gone.map (Value.int .i64) ++ [.int .i64 x])) (hb : v'.ownBlock = gv.ownBlock ∨ ∃ g, v'.ownBlock = some g ∧ w.heap.size ≤ g) :
    KeepR (gr F w w6) Fp (w6.setCell ⟨b, 4, none⟩ v') b p pb lb v' Lp Ll { m with gone := m.gone ++ [x] } := by
  have hb4 := h.hB.lt
  have hnb := h.hg.ne_blk h.hB (by decide)
  have hf2 : Fr (fun k => k = b) w6 (w6.setCell ⟨b, 4, none⟩ v') := Fr.setCell (S := fun k => k = b) (Fr.refl _ w6) (p := ⟨b, 4, none⟩) (fun _ => rfl) v'
  have hB6 := h.hB.fr hf hnb
  have hvb : v'.ownBlock ≠ some b := by
    rcases hb with e | ⟨g, e, hg⟩
    · rw [e]; exact hnb
    · rw [e]; intro e2; cases e2; omega
  have hnp : ∀ g, v'.ownBlock = some g → ¬ Fp g := by
    intro g hg
    rcases hb with e | ⟨g', e, hg'⟩
    · exact h.nP.2.2.2 g (e ▸ hg)
    · rw [e] at hg; cases hg; intro hF; have := h.hP.bd _ hF; omega
  refine ⟨hB6.set 4 v', (h.hP.fr hf (fun k hk e => h.nP.2.2.2 k e hk)).fr hf2 (fun k hk e => h.nP.1 (e ▸ hk)), hf2.im (hf.im h.ip (fun e => h.hg.ne_im h.ip e)) (fun e => h.hB.ne_map h.ip e.symm), hf2.im (hf.im h.il (fun e => h.hg.ne_im h.il e)) (fun e => h.hB.ne_map h.il e.symm), h.ep, h.el, ?_, ?_, gr_in h.fb, gr_in h.fpb, gr_in h.flb, ?_, fun k hk => gr_in (h.fP k hk), ⟨h.nP.1, h.nP.2.1, h.nP.2.2.1, hnp⟩, h.npl, (h.bd.gr hf).fr hf2⟩
  · have := hs.fr hf2 (fun g hg e => hvb (e ▸ hg))
    simpa using this
  · obtain ⟨g, off, cap, rfl, -⟩ := hs.form (by omega)
    simp
  · intro g hg
    rcases hb with e | ⟨g', e, hg'⟩
    · exact gr_in (h.fg g (e ▸ hg))
    · rw [e] at hg; cases hg; exact gr_new hg' (hs.lt e)

set_option maxHeartbeats 4000000 in
theorem keep_room (F : Nat → Prop) (b : Nat) (m : KeepM) (t : Int) (w : World) (h : KeepA F w b m) (hgl : (m.gone.length : Int) ≤ 100000) :
    Calls Tryz.prog 86 #[.pointer (some ⟨b,0,none⟩), .int .i64 t] w fun e w' => e = .returned (.int .i64 (m.room t).1) ∧ KeepA (gr F w w') w' b (m.room t).2 ∧ Fr F w w' := by
  obtain ⟨Fp, p, pb, lb, gv, Lp, Ll, h⟩ := h
  have c0 := h.hB.get (i := 0) rfl
  have c1 := h.hB.get (i := 1) rfl
  have c2 := h.hB.get (i := 2) rfl
  have c3 := h.hB.get (i := 3) rfl
  have c4 := h.hB.get (i := 4) rfl
  have hbl := h.hB.lt
  have hml : (m.P.m.length : Int) ≤ 65535 := by
    obtain ⟨bb, mb, fv, C, bufs, free, E, h1, h2⟩ := h.hP
    have := srt_len m.P.m 1 65535 h2.srt h2.keys
    omega
  go_enter Tryz.func86, Tryz.ntmps86
  obtain ⟨W, hW⟩ : ∃ W, W = w.alloc (.cells #[.pointer (some ⟨b, 0, none⟩)] 103) := ⟨_, rfl⟩
  have f0 : Fr (fun _ => False) w W := by rw [hW]; exact (Fr.refl _ w).alloc _
  have kW := h.frU f0 (fun _ _ h => h)
  have T := pool_traces Fp W p m.P kW.hP
  rw [hW] at T
  go_wp2_with fail
  refine T.mono ?_
  rintro e w1 ⟨v, rfl, hS, hG, -, hF⟩
  rw [← hW] at hG hF
  rw [List.length_map] at hS
  have M := may_of W w1 ⟨w.heap.size, 0, none⟩ b pb Lp m.pins v (m.P.m.map (·.1)) (by rw [List.length_map]; exact hS) hG hF (by rw [List.length_map]; omega) (by rw [hW]; simp) (kW.hB.get rfl) kW.ip kW.ep
  clear T
  obtain ⟨va, vc, rfl⟩ := hS.lit
  clear hS
  go_wp2_with fail
  refine M.mono ?_
  rintro e w2 ⟨v2, rfl, hS2, hG2, hF2⟩
  have k2 := kW.frU hF2 (fun k hk e => by have := kW.bd k hk; omega)
  have hq2 : w2.cell? ⟨w.heap.size, 0, none⟩ = some (.pointer (some ⟨b, 0, none⟩)) := hF2.cell_some (by rw [hW]; simp) (by rw [hW]; simp)
  have hszW : W.heap.size = w.heap.size + 1 := by rw [hW]; simp
  have d0 := k2.hB.get (i := 0) rfl
  have d1 := k2.hB.get (i := 1) rfl
  have d2 := k2.hB.get (i := 2) rfl
  have d3 := k2.hB.get (i := 3) rfl
  have d4 := k2.hB.get (i := 4) rfl
  have il := k2.il
  have hmy : (List.filter (fun x => !m.pins x) (m.P.m.map (·.1))) = m.may := rfl
  rw [hmy] at hS2
  have hb2 := k2.hB.lt
  have hml2 := im_lt k2.il
  have hq2b := World.block_lt_of_cell? w2 _ hq2
  obtain ⟨v2a, v2c, rfl⟩ := hS2.lit
  have HC : Hid _ := hW
  clear c0 c1 c2 c3 c4 M hW hG hF hmy
  by_cases hm : m.may = []
  · have hr : m.room t = (6, { m with lost := setT m.lost t true }) := by rw [KeepM.room, if_pos hm]
    have HK : Hid _ := k2.setLost t
    have HF : Hid (Fr F w (w2.mput lb t (.bool true))) := ((f0.mono (S' := F) (fun _ _ h => h.elim)).trans (hF2.mono (S' := fun _ => False) (fun k hk e => by omega)) (fun _ _ h => h.elim)).mput (fun _ => h.flb) _ _
    have HR : Hid _ := hr
    have HBd : Hid _ := h.bd
    have hl0 : m.may.length = 0 := by rw [hm]; rfl
    rw [hl0]
    clear hr hS2 k2 h kW hm hl0
    go_wp2
    go_ret
    refine ⟨by rw [HR.out]; rfl, ?_, HF.out⟩
    rw [HR.out]
    exact ⟨_, _, _, _, _, _, _, KeepR.wide HK.out (fun _ => gr_in) (Bd.gr HBd.out HF.out)⟩
  · have hl1 : 1 ≤ m.may.length := by cases hmm : m.may with | nil => exact absurd hmm hm | cons a l => simp
    have hl1' : (1 : Int) ≤ (m.may.length : Int) := by omega
    have hl2 : (m.may.length : Int) ≤ 65535 := by
      have : m.may.length ≤ (m.P.m.map (·.1)).length := List.length_filter_le _ _
      rw [List.length_map] at this; omega
    have hmz : ((m.may.length : Int) == 0) = false := by simp only [beq_eq_false_iff_ne, ne_eq]; omega
    have HS : Hid _ := hS2
    have H2 : Hid _ := k2
    have H1 : Hid _ := h
    clear hS2 k2 h kW hm
    go_upto_region 5 with fail
    go_cut [6] from 22 (fun s6 wc => s6 = .int .i64 (leastS m.seed (m.may ++ [t])) ∧ Fr (fun k => W.heap.size ≤ k) W wc)
    case first =>
      have HX : ∀ X, Fr (fun _ => False) w2 X → Sl X 3 1 (.slice v2a m.may.length v2c) m.may.length (m.may.map (Value.int .i64)) := fun X hX => Sl.fr HS.out hX (fun _ _ h => h)
      have hq2g : Value.ownBlock (.slice v2a m.may.length v2c) ≠ some w.heap.size := fun e => by have := hG2 _ e; omega
      have hq2h : Value.ownBlock (.slice v2a m.may.length v2c) ≠ some b := fun e => by have := hG2 _ e; have := H1.out.hB.lt; omega
      have HQ : ∀ X, Fr (fun k => W.heap.size ≤ k) w2 X → X.cell? ⟨b, 1, none⟩ = some (.int .u64 m.seed) := fun X hX => hX.cell_some d1 (by have := H1.out.hB.lt; simp; omega)
      have HQ2 : ∀ X, Fr (fun k => W.heap.size ≤ k) w2 X → X.cell? ⟨w.heap.size, 0, none⟩ = some (.pointer (some ⟨b, 0, none⟩)) := fun X hX => hX.cell_some hq2 (by simp; omega)
      have HL : Hid (∀ X v', Fr (fun k => W.heap.size ≤ k) w2 X → Sl X 3 1 v' (m.may.length + 1) (m.may.map (Value.int .i64) ++ [.int .i64 t]) → Calls Tryz.prog 123 #[.int .u64 m.seed, v'] X fun e w' => e = .returned (.int .i64 (leastS m.seed (m.may ++ [t]))) ∧ Fr (fun k => W.heap.size ≤ k) w2 w') := fun X v' hX hS => by
        have := hash_least X m.seed v' (m.may ++ [t]) (by simpa using hS) (by simp; omega)
        exact this.mono (fun e w' ⟨h1, h2⟩ => ⟨h1, hX.trans h2 (fun _ _ h => h.elim)⟩)
      go_region_held3 (fun w' => w'.cell? ⟨b, 1, none⟩ = some (.int .u64 m.seed) ∧ w'.cell? ⟨w.heap.size, 0, none⟩ = some (.pointer (some ⟨b, 0, none⟩))) (exact ⟨HQ _ (by first | exact hf3 | exact hF4 | (repeat first | exact Fr.refl _ _ | refine Fr.drew ?_ | refine Fr.alloc ?_ _)), HQ2 _ (by first | exact hf3 | exact hF4 | (repeat first | exact Fr.refl _ _ | refine Fr.drew ?_ | refine Fr.alloc ?_ _))⟩)
        (first
          | (refine step_append_sl _ (by rfl) _ _ _ (by rfl) el_int (v := .slice v2a m.may.length v2c) (by rfl) (by refine HX _ ?_; repeat first | exact Fr.refl _ _ | refine Fr.drew ?_ | refine Fr.alloc ?_ _) (by rfl) (by exact rd_one _ _ _ (by simp)) (by rfl) (by simp [Value.oneCell']) (by omega) (by omega) ?_; intro v' w3 hs3 hg3 hb3 hn3; have hf3 : Fr (fun k => W.heap.size ≤ k) w2 w3 := Fr.grown (by repeat first | exact Fr.refl _ _ | refine Fr.drew ?_ | refine Fr.alloc ?_ _) hg3 (fun k _ e => hG2 k e))
          | (go_at_call 123; refine (HL.out _ v' hf3 hs3).mono ?_; rintro e w4 ⟨rfl, hF4⟩))
      go_wp2
      go_meet
      case rel => exact ⟨rfl, hF2.trans hF4 (fun _ _ h => h)⟩
    case rest =>
      obtain ⟨wA, hwA⟩ : ∃ wA, wA = wc := ⟨_, rfl⟩
      subst hwA
      obtain ⟨rfl, hF3⟩ := hcut
      clear d0 d1 d2 d3 d4 il hq2 hb2 hml2 hq2b H2 hF2 hG2 HS
      have hx : m.room t = (if leastS m.seed (m.may ++ [t]) = t then 10 else 0, { m with P := m.P.drop (leastS m.seed (m.may ++ [t])), lost := setT m.lost (leastS m.seed (m.may ++ [t])) true, gone := m.gone ++ [leastS m.seed (m.may ++ [t])] }) := by
        rw [KeepM.room, if_neg (fun e => by rw [e] at hl1; simp at hl1)]
      obtain ⟨x, hxx⟩ : ∃ x, x = leastS m.seed (m.may ++ [t]) := ⟨_, rfl⟩
      rw [← hxx] at hx ⊢
      have HR : Hid _ := hx
      have k3 := (H1.out.frU f0 (fun _ _ h => h)).frU hF3 (fun k hk e => by have := H1.out.bd k hk; omega)
      have e0 := k3.hB.get (i := 0) rfl
      have hq3 : wA.cell? ⟨w.heap.size, 0, none⟩ = some (.pointer (some ⟨b, 0, none⟩)) := hF3.cell_some (by rw [HC.out]; simp) (by simp; omega)
      clear hx hxx
      go_wp2_with fail
      refine (pool_drop Fp wA p m.P k3.hP x).mono ?_
      rintro e w4 ⟨rfl, hP4, hF4⟩
      have k4 := k3.pool hP4 hF4
      have k5 := k4.setLost x
      have g3 := k4.hB.get (i := 3) rfl
      have il4 := k4.il
      have g4 := k5.hB.get (i := 4) rfl
      have hq4 : w4.cell? ⟨w.heap.size, 0, none⟩ = some (.pointer (some ⟨b, 0, none⟩)) := hF4.cell_some hq3 (fun e => by have := H1.out.bd _ (H1.out.fP _ e); simp at this)
      obtain ⟨ga, gc, rfl⟩ := k4.hg.lit
      have H3 : Hid _ := k3
      have H4 : Hid _ := k4
      have H5 : Hid _ := k5
      have HF3 : Hid _ := hF3
      have HF4 : Hid _ := hF4
      clear k3 k4 k5 hP4 hF4 hF3 e0 hq3
      have hgl0 : (0 : Int) ≤ (m.gone.length : Int) := by omega
      have hq5 : (w4.mput lb x (.bool true)).cell? ⟨w.heap.size, 0, none⟩ = some (.pointer (some ⟨b, 0, none⟩)) := by rw [cell?_mput]; exact hq4
      have SG : ∀ X, Fr (fun k => Value.ownBlock (.slice ga m.gone.length gc) = some k) (w4.mput lb x (.bool true)) X → X.cell? ⟨w.heap.size, 0, none⟩ = some (.pointer (some ⟨b, 0, none⟩)) ∧ X.cell? ⟨b, 4, none⟩ = some (.slice ga m.gone.length gc) ∧ X.frozen? ⟨b, 4, none⟩ = false := fun X hX => by
        have hnb := H5.out.hg.ne_blk H5.out.hB (by decide)
        have hnq : Value.ownBlock (.slice ga m.gone.length gc) ≠ some w.heap.size := fun e => by
          rcases H4.out.fg _ e with e | ⟨e1, e2⟩
          · have := H1.out.bd _ e; omega
          · have := HF3.out.size; omega
        exact ⟨hX.cell_some hq5 hnq, (H5.out.hB.fr hX hnb).get rfl, (H5.out.hB.fr hX hnb).frozen 4⟩
      have SX : ∀ X, Fr (fun _ => False) (w4.mput lb x (.bool true)) X → Sl X 3 1 (.slice ga m.gone.length gc) m.gone.length (m.gone.map (Value.int .i64)) := fun X hX => Sl.fr H5.out.hg hX (fun _ _ h => h)
      have HSG : Hid _ := SG
      clear SG hq5
      go_upto_region 8 with fail
      have hq5 := (HSG.out _ (Fr.refl _ _)).1
      have g4' := (HSG.out _ (Fr.refl _ _)).2.1
      have g4f := (HSG.out _ (Fr.refl _ _)).2.2
      have HST : ∀ (X : World) (v : Value), X.cell? ⟨w.heap.size, 0, none⟩ = some (.pointer (some ⟨b, 0, none⟩)) → (X.setCell ⟨b, 4, none⟩ v).cell? ⟨w.heap.size, 0, none⟩ = some (.pointer (some ⟨b, 0, none⟩)) := fun X v h => (Fr.setCell (S := fun k => k = b) (Fr.refl _ X) (p := ⟨b, 4, none⟩) (fun _ => rfl) v).cell_some h (by simp; omega)
      have g4w : w4.cell? ⟨b, 4, none⟩ = some (.slice ga m.gone.length gc) := H4.out.hB.get rfl
      have g4wf : w4.frozen? ⟨b, 4, none⟩ = false := H4.out.hB.frozen 4
      have hb4 : b < w4.heap.size := H4.out.hB.lt
      have hq4s : w.heap.size < w4.heap.size := World.block_lt_of_cell? w4 _ hq4
      clear HST g4' g4f hq5
      go_cut [6] from 42 (fun s6 w7 => s6 = .int .i64 x ∧ ∃ gv' w6, w6.heap.size ≤ w7.heap.size ∧ KeepR (gr (gr F wA w4) (w4.mput lb x (.bool true)) w6) (gr Fp wA w4) w7 b p pb lb gv' Lp (put Ll x true) { m with P := m.P.drop x, lost := setT m.lost x true, gone := m.gone ++ [x] } ∧ Fr (gr F wA w4) (w4.mput lb x (.bool true)) w7)
      case first =>
        go_region_law (refine step_append_sl _ (by rfl) _ _ _ (by rfl) el_int (v := .slice ga m.gone.length gc) (by rfl) (by refine SX _ ?_; repeat first | exact Fr.refl _ _ | refine Fr.drew ?_ | refine Fr.alloc ?_ _) (by rfl) (by exact rd_one _ _ _ (by simp)) (by rfl) (by simp [Value.oneCell']) (by omega) (by omega) ?_; intro v' w6 hs6 hg6 hb6 hn6; obtain ⟨v6a, v6c, rfl⟩ := hs6.lit; clear hn6; have hf6 : Fr (fun k => Value.ownBlock (.slice ga m.gone.length gc) = some k) (w4.mput lb x (.bool true)) w6 := Fr.grown (by repeat first | exact Fr.refl _ _ | refine Fr.drew ?_ | refine Fr.alloc ?_ _) hg6 (fun k _ e => e); have q0 := (HSG.out _ hf6).1; have q4 := (HSG.out _ hf6).2.1; have q4f := (HSG.out _ hf6).2.2)
        all_goals
          have hs7 := H5.out.setGone hf6 hs6 (by
            rcases hb6 with e | e
            · exact .inl e
            · exact .inr ⟨_, e, by simp⟩)
          have hf7 : Fr (gr F wA w4) (w4.mput lb x (.bool true)) (w6.setCell ⟨b, 4, none⟩ (.slice v6a (m.gone.length + 1) v6c)) := (hf6.mono (fun k _ e => H4.out.fg k e)).setCell (p := ⟨b, 4, none⟩) (fun _ => H4.out.fb) _
          have HF7 : Hid (∃ gv' w6', w6'.heap.size ≤ (w6.setCell ⟨b, 4, none⟩ (.slice v6a (m.gone.length + 1) v6c)).heap.size ∧ KeepR (gr (gr F wA w4) (w4.mput lb x (.bool true)) w6') (gr Fp wA w4) (w6.setCell ⟨b, 4, none⟩ (.slice v6a (m.gone.length + 1) v6c)) b p pb lb gv' Lp (put Ll x true) { m with P := m.P.drop x, lost := setT m.lost x true, gone := m.gone ++ [x] } ∧ Fr (gr F wA w4) (w4.mput lb x (.bool true)) (w6.setCell ⟨b, 4, none⟩ (.slice v6a (m.gone.length + 1) v6c))) := ⟨_, w6, by simp [World.setCell], hs7, hf7⟩
          clear hs7 hf7 hs6 hg6 hb6 hf6
          go_wp2
          go_meet
          exact ⟨rfl, HF7.out⟩
      case rest =>
        obtain ⟨rfl, gv', w6, hsz6, hK7, hF7⟩ := hcut
        have s1 : W.heap.size ≤ wA.heap.size := HF3.out.size
        have s2 : wA.heap.size ≤ w4.heap.size := HF4.out.size
        have s3 : w4.heap.size ≤ wc.heap.size := by have := hF7.size; rwa [size_mput] at this
        have hfo : Fr F w wc := by
          have h1 : Fr F w W := f0.mono (fun _ _ h => h.elim)
          have h2 : Fr F w wA := h1.trans HF3.out (fun k hk e => by omega)
          have h3 : Fr F w w4 := h2.trans HF4.out (fun k _ e => H1.out.fP k e)
          have h4 : Fr F w (w4.mput lb x (.bool true)) := h3.mput (fun _ => H1.out.flb) _ _
          refine h4.trans hF7 (fun k hk e => ?_)
          rcases e with e | ⟨e1, e2⟩
          · exact e
          · omega
        have hfin : KeepA (gr F w wc) wc b (m.room t).2 := by
          rw [HR.out]
          refine ⟨_, _, _, _, _, _, _, hK7.wide (fun k hk => ?_) (H1.out.bd.gr hfo)⟩
          rcases hk with (e | ⟨e1, e2⟩) | ⟨e1, e2⟩
          · exact gr_in e
          · exact gr_new (by omega) (by omega)
          · rw [size_mput] at e1
            exact gr_new (by omega) (by omega)
        have hr1 : (m.room t).1 = if x = t then 10 else 0 := by rw [HR.out]
        have HFI : Hid _ := hfin
        have HFF : Hid _ := hfo
        have HR1 : Hid _ := hr1
        clear hfin hfo hr1 hK7 hF7 hq4 g4w g4wf hb4 hq4s SX HSG HR
        by_cases hxt : x = t
        · subst hxt
          go_wp2
          go_ret
          exact ⟨by rw [HR1.out]; simp, HFI.out, HFF.out⟩
        · go_wp2
          go_ret
          exact ⟨by rw [HR1.out]; simp [hxt], HFI.out, HFF.out⟩
end Go.Proofs.YtkjggglmemafgaaGreat
