import Derived.Test.YtkjggglmemafgaaGreatRoom
import Derived.Deep.LoopGhost
namespace Go.Proofs.YtkjggglmemafgaaGreat
open Go Go.RowKit
set_option maxRecDepth 20000

def KeepM.writeN : Nat → KeepM → Int → ByteArray → Sp × Int × KeepM
  | 0, m, _, _ => (zSp, 6, m)
  | n + 1, m, t, s =>
    if (m.P.write t s).2.1 ≠ 6 then ((m.P.write t s).1, (m.P.write t s).2.1, { m with P := (m.P.write t s).2.2 })
    else if (m.room t).1 ≠ 0 then (zSp, (m.room t).1, (m.room t).2) else KeepM.writeN n (m.room t).2 t s
def KeepM.write (m : KeepM) (t : Int) (s : ByteArray) : Sp × Int × KeepM :=
  if t < 1 ∨ 65535 < t ∨ 40 < s.size then (zSp, 1, m) else if m.lost t then (zSp, 10, m) else if m.pins t then (zSp, 12, m) else KeepM.writeN (m.P.m.length + 1) m t s
def KWritePost (F : Nat → Prop) (w : World) (b : Nat) (r : Sp × Int × KeepM) (e : Ending) (w' : World) : Prop :=
  e = .returned (errV r.1 r.2.1) ∧ KeepA (gr F w w') w' b r.2.2 ∧ Fr F w w'

theorem write_full {P : PoolS} {t : Int} {s : ByteArray} (h : (P.write t s).2.1 = 6) : (P.write t s).2.2 = P ∧ (P.write t s).1 = zSp := by
  unfold PoolS.write at h ⊢
  split
  · exact ⟨rfl, rfl⟩
  · split
    · exact ⟨rfl, rfl⟩
    · next h1 h2 => rw [if_neg h1, if_neg h2] at h; simp at h

/-- early ends -/
theorem kwrite_early (F : Nat → Prop) (w : World) (b : Nat) (m : KeepM) (h : KeepA F w b m) (t : Int) (s : ByteArray) (hc : (t < 1 ∨ 65535 < t ∨ 40 < s.size) ∨ m.lost t = true ∨ m.pins t = true) :
    Calls Tryz.prog 44 #[.pointer (some ⟨b,0,none⟩), .int .i64 t, .string s] w (KWritePost F w b (m.write t s)) := by
  obtain ⟨Fp, p, pb, lb, gv, Lp, Ll, hk⟩ := id h
  have e2 := hk.ep t
  have e3 := hk.el t
  have c2 := hk.hB.get (i := 2) rfl
  have c3 := hk.hB.get (i := 3) rfl
  have ip := hk.ip
  have il := hk.il
  have hb := hk.hB.lt
  have hp := im_lt ip
  have hl := im_lt il
  have f3 : Fr (fun _ => False) w (w.alloc (.cells #[.int .i64 0, .int .i64 0, .string ByteArray.empty] 37)) := (Fr.refl _ w).alloc _
  have fin := h.kept f3
  have finF : Fr F w _ := f3.mono (fun _ _ h => h.elim)
  have HF : Hid _ := fin
  have HFF : Hid _ := finF
  clear hk h f3 fin finF
  by_cases h1 : t < 1
  · have hw : m.write t s = (zSp, 1, m) := by unfold KeepM.write; rw [if_pos (.inl h1)]
    rw [hw]
    clear hw hc e2 e3
    go_enter Tryz.func44, Tryz.ntmps44
    go_wp2
    exact bodyPost_ret (v := errV zSp 1) (by simp [results, Tryz.results44, go_sem, errV, zSp]; rfl) rfl ⟨rfl, HF.out, HFF.out⟩
  · by_cases h2 : 65535 < t
    · have hw : m.write t s = (zSp, 1, m) := by unfold KeepM.write; rw [if_pos (.inr (.inl h2))]
      rw [hw]
      clear hw hc e2 e3
      go_enter Tryz.func44, Tryz.ntmps44
      go_wp2
      exact bodyPost_ret (v := errV zSp 1) (by simp [results, Tryz.results44, go_sem, errV, zSp]; rfl) rfl ⟨rfl, HF.out, HFF.out⟩
    · by_cases h3 : (40 : Int) < s.size
      · have hw : m.write t s = (zSp, 1, m) := by unfold KeepM.write; rw [if_pos (.inr (.inr (by omega)))]
        rw [hw]
        clear hw hc e2 e3
        go_enter Tryz.func44, Tryz.ntmps44
        go_wp2
        exact bodyPost_ret (v := errV zSp 1) (by simp [results, Tryz.results44, go_sem, errV, zSp]; rfl) rfl ⟨rfl, HF.out, HFF.out⟩
      · have hg : ¬ (t < 1 ∨ 65535 < t ∨ 40 < s.size) := by omega
        by_cases h4 : m.lost t = true
        · have hw : m.write t s = (zSp, 10, m) := by unfold KeepM.write; rw [if_neg hg, if_pos h4]
          rw [hw]
          rw [h4] at e3
          clear hw hc e2 hg
          go_enter Tryz.func44, Tryz.ntmps44
          go_wp2
          exact bodyPost_ret (v := errV zSp 10) (by simp [results, Tryz.results44, go_sem, errV, zSp]; rfl) rfl ⟨rfl, HF.out, HFF.out⟩
        · have h4' : m.lost t = false := by simpa using h4
          have h5 : m.pins t = true := by
            rcases hc with h | h | h
            · exact absurd h hg
            · exact absurd h h4
            · exact h
          have hw : m.write t s = (zSp, 12, m) := by unfold KeepM.write; rw [if_neg hg, if_neg h4, if_pos h5]
          rw [hw]
          rw [h4'] at e3
          rw [h5] at e2
          clear hw hc hg h4
          go_enter Tryz.func44, Tryz.ntmps44
          go_wp2
          exact bodyPost_ret (v := errV zSp 12) (by simp [results, Tryz.results44, go_sem, errV, zSp]; rfl) rfl ⟨rfl, HF.out, HFF.out⟩

theorem minS_or (seed m x : Int) : minS seed m x = m ∨ minS seed m x = x := by
  by_cases h : cmpS seed x m < 0
  · exact .inr (minS_lt h)
  · exact .inl (minS_ge h)
theorem foldl_minS_mem (seed : Int) : ∀ (xs : List Int) (x : Int), xs.foldl (minS seed) x ∈ x :: xs
  | [], x => List.mem_cons_self ..
  | y :: xs, x => by
    rw [List.foldl_cons]
    rcases minS_or seed x y with e | e
    · rw [e]
      rcases List.mem_cons.1 (foldl_minS_mem seed xs x) with h | h
      · rw [h]; exact List.mem_cons_self ..
      · exact List.mem_cons_of_mem _ (List.mem_cons_of_mem _ h)
    · rw [e]; exact List.mem_cons_of_mem _ (foldl_minS_mem seed xs y)
theorem leastS_mem (seed : Int) : ∀ {l : List Int}, l ≠ [] → leastS seed l ∈ l
  | [], h => absurd rfl h
  | x :: xs, _ => foldl_minS_mem seed xs x
theorem room_ok {m : KeepM} {t : Int} (hr : (m.room t).1 = 0) : (m.room t).2.P.m.length < m.P.m.length ∧ (m.room t).2.gone.length = m.gone.length + 1 := by
  unfold KeepM.room at hr ⊢
  by_cases hm : m.may = []
  · rw [if_pos hm] at hr; simp at hr
  · rw [if_neg hm] at hr ⊢
    simp only [] at hr ⊢
    have hx := leastS_mem m.seed (l := m.may ++ [t]) (by simp)
    obtain ⟨x, hxx⟩ : ∃ x, leastS m.seed (m.may ++ [t]) = x := ⟨_, rfl⟩
    rw [hxx] at hr hx ⊢
    refine ⟨?_, by simp⟩
    have hxt : x ≠ t := fun e => by rw [if_pos e] at hr; simp at hr
    have hxm : x ∈ m.may := by simpa [hxt] using hx
    obtain ⟨y, hy, e⟩ := List.mem_map.1 (List.mem_filter.1 hxm).1
    exact List.length_filter_lt_length_iff_exists.2 ⟨y, hy, by simp [e]⟩

set_option maxHeartbeats 2000000 in
theorem kwrite_main (F : Nat → Prop) (w : World) (b : Nat) (m : KeepM) (h : KeepA F w b m) (t : Int) (s : ByteArray) (hg : ¬ (t < 1 ∨ 65535 < t ∨ 40 < s.size)) (hl : m.lost t = false) (hp : m.pins t = false) (hgl : m.gone.length + m.P.m.length ≤ 90000) :
    Calls Tryz.prog 44 #[.pointer (some ⟨b,0,none⟩), .int .i64 t, .string s] w (KWritePost F w b (m.write t s)) := by
  have hw : m.write t s = KeepM.writeN (m.P.m.length + 1) m t s := by unfold KeepM.write; rw [if_neg hg, hl, hp]; simp
  rw [hw]
  obtain ⟨Fp, p, pb, lb, gv, Lp, Ll, hk⟩ := id h
  have e2 := hk.ep t
  have e3 := hk.el t
  rw [hp] at e2
  rw [hl] at e3
  have c2 := hk.hB.get (i := 2) rfl
  have c3 := hk.hB.get (i := 3) rfl
  have ip := hk.ip
  have il := hk.il
  have hb := hk.hB.lt
  have hpb := im_lt ip
  have hlb := im_lt il
  have h1 : 1 ≤ t := by omega
  have h2 : t ≤ 65535 := by omega
  have h3 : (s.size : Int) ≤ 40 := by omega
  have f3 : Fr (fun _ => False) w (w.alloc (.cells #[.int .i64 0, .int .i64 0, .string ByteArray.empty] 37)) := (Fr.refl _ w).alloc _
  have hst : KeepA (gr F w (w.alloc (.cells #[.int .i64 0, .int .i64 0, .string ByteArray.empty] 37))) (w.alloc (.cells #[.int .i64 0, .int .i64 0, .string ByteArray.empty] 37)) b m := h.kept f3
  have hst1 : KeepA F (w.alloc (.cells #[.int .i64 0, .int .i64 0, .string ByteArray.empty] 37)) b m := h.fr f3 (fun _ _ h => h)
  have hB := Blk.new w [.int .i64 0, .int .i64 0, .string ByteArray.empty] 37
  have hbd := h.bd
  have HST : Hid (KeepA F (w.alloc (.cells #[.int .i64 0, .int .i64 0, .string ByteArray.empty] 37)) b m) := hst1
  have HB : Hid _ := hB
  have HF3 : Hid _ := f3
  have HGL : Hid _ := hgl
  clear hk h f3 hst hst1 hB hgl hw hg hl hp
  go_enter Tryz.func44, Tryz.ntmps44
  go_wp2
  go_loopg [8, 9, 10] (m.P.m.length + 1) (fun n _ _ _ wr => ∃ m' : KeepM, KeepM.writeN (m.P.m.length + 1) m t s = KeepM.writeN n m' t s ∧ m'.P.m.length < n ∧ m'.gone.length + m'.P.m.length ≤ 90000 ∧
    ∃ F', (∀ k, F' k → gr F w wr k) ∧ KeepA F' wr b m' ∧ Fr F w wr ∧ Blk wr w.heap.size 37 [.int .i64 0, .int .i64 0, .string ByteArray.empty] ∧ ¬ F' w.heap.size)
  case atStart =>
    refine ⟨m, rfl, by omega, HGL.out, F, fun _ => gr_in, HST.out, HF3.out.mono (fun _ _ h => h.elim), HB.out, fun e => ?_⟩
    exact Nat.lt_irrefl _ (hbd _ e)
  case round =>
    obtain ⟨m', hwn, hlt, hgl, F', hF', hK, hF, hB, hno⟩ := hrel
    obtain ⟨n', rfl⟩ : ∃ n', gk = n' + 1 := ⟨gk - 1, by omega⟩
    obtain ⟨Fp', p', pb', lb', gv', Lp', Ll', hk⟩ := hK
    have c0 := hk.hB.get (i := 0) rfl
    have hsz := hF.size
    have W1 := pool_write Fp' wr p' m'.P hk.hP t s
    have HK : Hid _ := hk
    have HR : Hid (Blk wr w.heap.size 37 [.int .i64 0, .int .i64 0, .string ByteArray.empty]) := hB
    have HFF : Hid _ := hF
    have HWN : Hid _ := hwn
    clear hk hB hF hwn
    go_wp2_with fail
    refine W1.mono ?_
    rintro e w2 ⟨rfl, hP2, hF2⟩
    have B2 := HR.out.fr hF2 (fun e => hno (HK.out.fP _ e))
    have k0 := B2.get (i := 0) rfl
    have k1 := B2.get (i := 1) rfl
    have k2 := B2.get (i := 2) rfl
    have z0 := B2.frozen 0
    have z1 := B2.frozen 1
    have z2 := B2.frozen 2
    have hAlt := B2.lt
    have HP2 : Hid _ := HK.out.pool hP2 hF2
    have HF2 : Hid _ := hF2
    have HB2 : Hid _ := B2
    clear hP2 hF2 B2 W1 c0
    by_cases h6 : (m'.P.write t s).2.1 = 6
    · obtain ⟨hP, hs⟩ := write_full h6
      obtain ⟨⟨tr, sq, tx⟩, er, P2, hr⟩ : ∃ x er P2, m'.P.write t s = (x, er, P2) := ⟨_, _, _, rfl⟩
      rw [hr] at h6 hP hs HP2 ⊢
      simp only [errV] at h6 hP hs ⊢
      subst h6 hP
      cases hs
      have HWR : Hid _ := hr
      clear hr
      have hK2 : ∀ X, Fr (fun _ => False) w2 X → KeepA (gr F' wr w2) X b m' := fun X hX => ⟨_, _, _, _, _, _, _, HP2.out.frU hX (fun _ _ h => h)⟩
      have RM := fun X hX => keep_room (gr F' wr w2) b m' t X (hK2 X hX) (by omega)
      go_wp2_with fail
      refine (RM _ ((Fr.refl _ w2).alloc _)).mono ?_
      rintro e w3 ⟨rfl, hK3, hF3⟩
      have hA := HR.out.lt
      have hno2 : ¬ gr F' wr w2 w.heap.size := fun e => by
        rcases e with e | ⟨e, -⟩
        · exact hno e
        · omega
      have B3 := Blk.fr (Blk.alloc HB2.out (.cells #[.int .i64 0, .int .i64 0, .string ByteArray.empty] 37)) hF3 hno2
      have s1 := HF2.out.size
      have s2 : w2.heap.size < w3.heap.size := by have := hF3.size; simp at this; omega
      have hfo : Fr F w w3 := ((HFF.out.trans HF2.out (fun k hk e => gr_old (hF' k (HK.out.fP k e)) hk)).alloc (.cells #[.int .i64 0, .int .i64 0, .string ByteArray.empty] 37)).trans hF3 (fun k hk e => by
        rcases e with e | ⟨e, -⟩
        · exact gr_old (hF' k e) hk
        · omega)
      have hsub : ∀ k, gr (gr F' wr w2) (w2.alloc (.cells #[.int .i64 0, .int .i64 0, .string ByteArray.empty] 37)) w3 k → gr F w w3 k := fun k hk => by
        rcases hk with (hk | ⟨hk, hk'⟩) | ⟨hk, hk'⟩
        · rcases hF' k hk with hk | ⟨hk, hk'⟩
          · exact gr_in hk
          · exact gr_new hk (by omega)
        · exact gr_new (by omega) (by omega)
        · simp at hk; exact gr_new (by omega) (by omega)
      have hno3 : ¬ gr (gr F' wr w2) (w2.alloc (.cells #[.int .i64 0, .int .i64 0, .string ByteArray.empty] 37)) w3 w.heap.size := fun e => by
        rcases e with e | ⟨e, -⟩
        · exact hno2 e
        · simp at e; omega
      have hstep : KeepM.writeN (n' + 1) m' t s = if (m'.room t).1 ≠ 0 then (zSp, (m'.room t).1, (m'.room t).2) else KeepM.writeN n' (m'.room t).2 t s := by
        rw [KeepM.writeN, if_neg (by rw [HWR.out]; simp)]
      obtain ⟨er, he⟩ : ∃ er, (m'.room t).1 = er := ⟨_, rfl⟩
      rw [he] at hstep ⊢
      have k0 := B3.get (i := 0) rfl
      have k1 := B3.get (i := 1) rfl
      have k2 := B3.get (i := 2) rfl
      have z0 := B3.frozen 0
      have z1 := B3.frozen 1
      have z2 := B3.frozen 2
      have HST : Hid _ := hstep
      have HE : Hid _ := he
      have HK3 : Hid _ := hK3
      have HB3 : Hid _ := B3
      clear hstep he hK3 B3 hK2 RM hF3
      by_cases h0 : er = 0
      · subst h0
        have RO := room_ok HE.out
        go_wp2
        go_roundg n'
        case measure => omega
        case rel => exact ⟨(m'.room t).2, by rw [HWN.out, HST.out]; simp, by omega, by omega, _, hsub, HK3.out, hfo, HB3.out, hno3⟩
      · go_wp2
        have hf : Fr (fun k => k = w.heap.size) w3 (((w3.setCell ⟨w.heap.size, 0, none⟩ (.int .i64 0)).setCell ⟨w.heap.size, 1, none⟩ (.int .i64 0)).setCell ⟨w.heap.size, 2, none⟩ (.string ByteArray.empty)) := Fr.set3 w3 w.heap.size _ _ _
        obtain ⟨wF, hwF⟩ : ∃ wF, wF = (((w3.setCell ⟨w.heap.size, 0, none⟩ (.int .i64 0)).setCell ⟨w.heap.size, 1, none⟩ (.int .i64 0)).setCell ⟨w.heap.size, 2, none⟩ (.string ByteArray.empty)) := ⟨_, rfl⟩
        have k0' : wF.cell? ⟨w.heap.size, 0, none⟩ = some (.int .i64 0) := by rw [hwF]; exact (((Blk.set HB3.out 0 _).set 1 _).set 2 _).get (i := 0) rfl
        have k1' : wF.cell? ⟨w.heap.size, 1, none⟩ = some (.int .i64 0) := by rw [hwF]; exact (((Blk.set HB3.out 0 _).set 1 _).set 2 _).get (i := 1) rfl
        have k2' : wF.cell? ⟨w.heap.size, 2, none⟩ = some (.string ByteArray.empty) := by rw [hwF]; exact (((Blk.set HB3.out 0 _).set 1 _).set 2 _).get (i := 2) rfl
        rw [← hwF] at hf ⊢
        have hfo2 : Fr F w wF := hfo.trans hf (fun k hk e => by omega)
        have hfin : KeepA (gr F w wF) wF b (m'.room t).2 := (KeepA.fr HK3.out hf (fun k hk e => hno3 (e ▸ hk))).mono (fun k hk => (hsub k hk).imp id (fun h => ⟨h.1, Nat.lt_of_lt_of_le h.2 hf.size⟩)) (Bd.gr hbd hfo2)
        have hres : KeepM.writeN (m.P.m.length + 1) m t s = (zSp, er, (m'.room t).2) := by rw [HWN.out, HST.out, if_pos h0]
        rw [hres]
        exact bodyPost_ret (v := errV zSp er) (by simp [results, Tryz.results44, go_sem, k0', k1', k2', errV, zSp]) rfl ⟨rfl, hfin, hfo2⟩
    · obtain ⟨⟨tr, sq, tx⟩, er, P2, hr⟩ : ∃ x er P2, m'.P.write t s = (x, er, P2) := ⟨_, _, _, rfl⟩
      rw [hr] at h6 HP2 ⊢
      simp only [errV] at h6 ⊢
      have HWR : Hid _ := hr
      clear hr
      go_wp2
      have hf : Fr (fun k => k = w.heap.size) w2 ((((w2.setCell ⟨w.heap.size, 0, none⟩ (.int .i64 tr)).setCell ⟨w.heap.size, 1, none⟩ (.int .i64 sq)).setCell ⟨w.heap.size, 2, none⟩ (.string tx)).alloc (.cells #[.int .i64 tr, .int .i64 sq, .string tx] 37)) := (Fr.set3 w2 w.heap.size _ _ _).alloc _
      obtain ⟨wF, hwF⟩ : ∃ wF, wF = ((((w2.setCell ⟨w.heap.size, 0, none⟩ (.int .i64 tr)).setCell ⟨w.heap.size, 1, none⟩ (.int .i64 sq)).setCell ⟨w.heap.size, 2, none⟩ (.string tx)).alloc (.cells #[.int .i64 tr, .int .i64 sq, .string tx] 37)) := ⟨_, rfl⟩
      have hA := HR.out.lt
      have hfo : Fr F w wF := by
        rw [hwF]
        exact (HFF.out.trans HF2.out (fun k hk e => gr_old (hF' k (HK.out.fP k e)) hk)).trans hf (fun k hk e => by omega)
      have hk2 := (HP2.out.frU hf (fun k hk e => by
        subst e
        rcases hk with hk | ⟨hk, -⟩
        · exact hno hk
        · omega)).wide (F' := gr F w wF) (fun k hk => by
          have s1 := HF2.out.size
          have s2 := hf.size
          rw [← hwF] at s2
          rcases hk with hk | ⟨hk, hk'⟩
          · rcases hF' k hk with hk | ⟨hk, hk'⟩
            · exact gr_in hk
            · exact gr_new hk (by omega)
          · exact gr_new (by omega) (by omega)) (by rw [← hwF]; exact Bd.gr hbd hfo)
      have hwn' : KeepM.writeN (n' + 1) m' t s = (⟨tr, sq, tx⟩, er, { m' with P := P2 }) := by
        rw [KeepM.writeN, if_pos (by rw [HWR.out]; exact h6), HWR.out]
      rw [← hwF] at hk2 ⊢
      rw [HWN.out, hwn']
      have k0' : wF.cell? ⟨w.heap.size, 0, none⟩ = some (.int .i64 tr) := by rw [hwF]; exact ((((Blk.set HB2.out 0 _).set 1 _).set 2 _).alloc _).get (i := 0) rfl
      have k1' : wF.cell? ⟨w.heap.size, 1, none⟩ = some (.int .i64 sq) := by rw [hwF]; exact ((((Blk.set HB2.out 0 _).set 1 _).set 2 _).alloc _).get (i := 1) rfl
      have k2' : wF.cell? ⟨w.heap.size, 2, none⟩ = some (.string tx) := by rw [hwF]; exact ((((Blk.set HB2.out 0 _).set 1 _).set 2 _).alloc _).get (i := 2) rfl
      exact bodyPost_ret (v := errV ⟨tr, sq, tx⟩ er) (by simp [results, Tryz.results44, go_sem, k0', k1', k2', errV]) rfl ⟨rfl, ⟨_, _, _, _, _, _, _, hk2⟩, hfo⟩
theorem keep_write (F : Nat → Prop) (w : World) (b : Nat) (m : KeepM) (h : KeepA F w b m) (t : Int) (s : ByteArray) (hgl : m.gone.length + m.P.m.length ≤ 90000) :
    Calls Tryz.prog 44 #[.pointer (some ⟨b,0,none⟩), .int .i64 t, .string s] w (KWritePost F w b (m.write t s)) := by
  by_cases hc : (t < 1 ∨ 65535 < t ∨ 40 < s.size) ∨ m.lost t = true ∨ m.pins t = true
  · exact kwrite_early F w b m h t s hc
  · refine kwrite_main F w b m h t s (fun e => hc (.inl e)) ?_ ?_ hgl
    · cases hl : m.lost t with
      | true => exact absurd (.inr (.inl hl)) hc
      | false => rfl
    · cases hl : m.pins t with
      | true => exact absurd (.inr (.inr hl)) hc
      | false => rfl
end Go.Proofs.YtkjggglmemafgaaGreat
