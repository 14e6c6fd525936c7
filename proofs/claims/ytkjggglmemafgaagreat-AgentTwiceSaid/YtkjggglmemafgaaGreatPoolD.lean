import Derived.Test.YtkjggglmemafgaaGreatPoolI
namespace Go.Proofs.YtkjggglmemafgaaGreat
open Go Go.RowKit
set_option maxRecDepth 20000

theorem PInv.len_small {bufs : List (List Sp)} {free : List Int} {E : List (Int × Chain)} {P : PoolS} (h : PInv bufs free E P) (hb : ∀ (i : Nat) l, bufs[i]? = some l → l.length ≤ 3) (t : Int) : (get P.m t []).length ≤ 48 := by
  rw [← h.get_abs t]
  have := spansOf_le bufs hb (get E t noChain).2
  have := h.ids_small t
  omega
theorem PoolA.len_small {F : Nat → Prop} {w : World} {p : Nat} {P : PoolS} (h : PoolA F w p P) (t : Int) : (get P.m t []).length ≤ 48 := by
  obtain ⟨bb, mb, fv, C, bufs, free, E, h1, h2⟩ := h
  exact h2.len_small (fun i l hl => (h1.hbuf i l hl).1) t

def errV (s : Sp) (e : Int) : Value := .tuple #[.agg #[.int .i64 s.tr, .int .i64 s.sq, .string s.tx], .int .i64 e]
def WritePost (F : Nat → Prop) (w : World) (p : Nat) (r : Sp × Int × PoolS) (e : Ending) (w' : World) : Prop :=
  e = .returned (errV r.1 r.2.1) ∧ PoolA (gr F w w') w' p r.2.2 ∧ Fr F w w'

set_option maxHeartbeats 1000000 in
theorem write_bad (F : Nat → Prop) (w : World) (p : Nat) (P : PoolS) (h : PoolA F w p P) (t : Int) (s : ByteArray) (hbad : t < 1 ∨ 65535 < t ∨ 40 < s.size) :
    Calls Tryz.prog 85 #[.pointer (some ⟨p,0,none⟩), .int .i64 t, .string s] w (WritePost F w p (P.write t s)) := by
  have hw : P.write t s = (zSp, 1, P) := by unfold PoolS.write; rw [if_pos hbad]
  rw [hw]
  have hlen := h.len_small t
  obtain ⟨l, hl⟩ : ∃ l, get P.m t [] = l := ⟨_, rfl⟩
  rw [hl] at hlen
  have hsp : spOk ⟨t, l.length + 1, s⟩ = false := by simp [spOk]; omega
  have C1 : ∀ W, PoolA F W p P → Calls Tryz.prog 105 #[.pointer (some ⟨p,0,none⟩), .int .i64 t] W (NewSpans W l) := fun W hW => by
    have := pool_spansA F W p P hW t; rwa [hl] at this
  have C2 : ∀ W, Calls Tryz.prog 94 #[.agg #[.int .i64 t, .int .i64 (l.length + 1), .string s]] W (RetB false W) := fun W => by
    have := span_right ⟨t, l.length + 1, s⟩ W; rwa [hsp] at this
  have hlen' : (l.length : Int) ≤ 48 := by omega
  have hlen0 : (0 : Int) ≤ (l.length : Int) := by omega
  clear hl hbad hw hsp
  go_enter Tryz.func85, Tryz.ntmps85
  go_wp2_with fail
  refine (C1 _ (h.fr ((Fr.refl (fun _ => False) w).alloc _) (fun _ _ h => h))).mono ?_
  rintro e w1 ⟨v, rfl, hS, hG, hN, hF1⟩
  have f1 : Fr (fun _ => False) w w1 := ((Fr.refl (fun _ => False) w).alloc _).trans hF1 (fun _ _ h => h)
  have B0 := (Blk.new w [.int .i64 0, .int .i64 0, .string ByteArray.empty] 37).fr hF1 (fun h => h)
  obtain ⟨va, vc, hv⟩ : ∃ va vc, v = .slice va l.length vc := by
    rcases hS.shape with ⟨hv, h0⟩ | ⟨g, off, cap, hv, _⟩
    · rw [h0]; exact ⟨_, _, hv⟩
    · exact ⟨_, _, hv⟩
  subst hv
  go_wp2_with fail
  refine (C2 _).mono ?_
  rintro e w2 ⟨rfl, hF2⟩
  have f2 : Fr (fun _ => False) w1 w2 := ((Fr.refl (fun _ => False) w1).alloc _).trans hF2 (fun _ _ h => h)
  have B2 := B0.fr f2 (fun h => h)
  have k0 := B2.get (i := 0) rfl
  have k1 := B2.get (i := 1) rfl
  have k2 := B2.get (i := 2) rfl
  have z0 := B2.frozen 0
  have z1 := B2.frozen 1
  have z2 := B2.frozen 2
  clear B0 hS hG hN hF1 hF2
  go_wp2
  have f3 := (((f1.trans f2 (fun _ _ h => h)).setCell (p := ⟨w.heap.size, 0, none⟩) (fun h => absurd h (Nat.lt_irrefl _)) (.int .i64 0)).setCell (p := ⟨w.heap.size, 1, none⟩) (fun h => absurd h (Nat.lt_irrefl _)) (.int .i64 0)).setCell (p := ⟨w.heap.size, 2, none⟩) (fun h => absurd h (Nat.lt_irrefl _)) (.string ByteArray.empty)
  exact bodyPost_ret (v := errV zSp 1) (by simp [results, Tryz.results85, go_sem, k0, k1, k2, errV, zSp]) rfl ⟨rfl, h.kept f3, f3.mono (fun _ _ h => h.elim)⟩

theorem Fr.set3 (w : World) (b : Nat) (v0 v1 v2 : Value) : Fr (fun k => k = b) w (((w.setCell ⟨b, 0, none⟩ v0).setCell ⟨b, 1, none⟩ v1).setCell ⟨b, 2, none⟩ v2) :=
  (((Fr.refl (fun k => k = b) w).setCell (p := ⟨b, 0, none⟩) (fun _ => rfl) v0).setCell (p := ⟨b, 1, none⟩) (fun _ => rfl) v1).setCell (p := ⟨b, 2, none⟩) (fun _ => rfl) v2
theorem write_asm {F : Nat → Prop} {w : World} {p bb fb mb : Nat} {fv : Value} {C : List Value} {bufs : List (List Sp)} {free : List Int} {E : List (Int × Chain)} (h : PoolR F w p bb fb mb fv C bufs free E) {i : Nat} {m : List Sp} (hm : bufs[i]? = some m) (hm3 : m.length < 3) (x : Sp) :
    PoolR F ((((w.setCell ⟨bb, i * 10 + m.length * 3, none⟩ (.int .i64 x.tr)).setCell ⟨bb, i * 10 + m.length * 3 + 1, none⟩ (.int .i64 x.sq)).setCell ⟨bb, i * 10 + m.length * 3 + 2, none⟩ (.string x.tx)).setCell ⟨bb, i * 10 + 9, none⟩ (.int .i64 (m.length + 1)))
      p bb fb mb fv ((((C.set (i * 10 + m.length * 3) (.int .i64 x.tr)).set (i * 10 + m.length * 3 + 1) (.int .i64 x.sq)).set (i * 10 + m.length * 3 + 2) (.string x.tx)).set (i * 10 + 9) (.int .i64 (m.length + 1))) (bufs.set i (m ++ [x])) free E ∧
    Fr (fun k => k = bb) w ((((w.setCell ⟨bb, i * 10 + m.length * 3, none⟩ (.int .i64 x.tr)).setCell ⟨bb, i * 10 + m.length * 3 + 1, none⟩ (.int .i64 x.sq)).setCell ⟨bb, i * 10 + m.length * 3 + 2, none⟩ (.string x.tx)).setCell ⟨bb, i * 10 + 9, none⟩ (.int .i64 (m.length + 1))) := by
  have f : Fr (fun k => k = bb) w ((((w.setCell ⟨bb, i * 10 + m.length * 3, none⟩ (.int .i64 x.tr)).setCell ⟨bb, i * 10 + m.length * 3 + 1, none⟩ (.int .i64 x.sq)).setCell ⟨bb, i * 10 + m.length * 3 + 2, none⟩ (.string x.tx)).setCell ⟨bb, i * 10 + 9, none⟩ (.int .i64 (m.length + 1))) :=
    ((((Fr.refl (fun k => k = bb) w).setCell (p := ⟨bb, i * 10 + m.length * 3, none⟩) (fun _ => rfl) _).setCell (p := ⟨bb, i * 10 + m.length * 3 + 1, none⟩) (fun _ => rfl) _).setCell (p := ⟨bb, i * 10 + m.length * 3 + 2, none⟩) (fun _ => rfl) _).setCell (p := ⟨bb, i * 10 + 9, none⟩) (fun _ => rfl) _
  have hil : i < bufs.length := (List.getElem?_eq_some_iff.1 hm).1
  have hC := h.hC
  obtain ⟨b1, b2, b3⟩ := h.hbuf i m hm
  have npb := h.hp.ne h.hb (by decide)
  obtain ⟨ess, cks, hents, _⟩ := im_ents h.hm
  refine ⟨⟨?_, (((h.hb.set _ _).set _ _).set _ _).set _ _, ?_, ?_, h.hf.fr f (by rintro g hg rfl; exact h.hf.ne_blk h.hb (by decide) hg), f.im h.hm (by rintro rfl; exact h.hb.ne_map h.hm rfl), ?_, h.hne, h.fp, h.fbb, h.fm, h.ff, h.bd.fr f⟩, f⟩
  · rw [List.length_set]; exact h.hp.fr f npb
  · simp only [List.length_set]; exact hC
  · intro k l hl
    by_cases e : k = i
    · subst e
      rw [List.getElem?_set_self hil] at hl
      cases hl
      refine ⟨by simp; omega, by rw [List.getElem?_set_self (by simp only [List.length_set]; omega)]; simp, ?_⟩
      intro j s hj
      by_cases c : j < m.length
      · rw [List.getElem?_append_left c] at hj
        obtain ⟨q1, q2, q3⟩ := b3 j s hj
        refine ⟨?_, ?_, ?_⟩
        · rw [List.getElem?_set_ne (by omega), List.getElem?_set_ne (by omega), List.getElem?_set_ne (by omega), List.getElem?_set_ne (by omega)]; exact q1
        · rw [List.getElem?_set_ne (by omega), List.getElem?_set_ne (by omega), List.getElem?_set_ne (by omega), List.getElem?_set_ne (by omega)]; exact q2
        · rw [List.getElem?_set_ne (by omega), List.getElem?_set_ne (by omega), List.getElem?_set_ne (by omega), List.getElem?_set_ne (by omega)]; exact q3
      · have hj2 : j = m.length := by have := (List.getElem?_eq_some_iff.1 hj).1; simp at this; omega
        subst hj2
        rw [List.getElem?_append_right (Nat.le_refl _), Nat.sub_self] at hj
        simp at hj; subst hj
        refine ⟨?_, ?_, ?_⟩
        · rw [List.getElem?_set_ne (by omega), List.getElem?_set_ne (by omega), List.getElem?_set_ne (by omega), List.getElem?_set_self (by omega)]
        · rw [List.getElem?_set_ne (by omega), List.getElem?_set_ne (by omega), List.getElem?_set_self (by simp only [List.length_set]; omega)]
        · rw [List.getElem?_set_ne (by omega), List.getElem?_set_self (by simp only [List.length_set]; omega)]
    · rw [List.getElem?_set_ne (fun h => e h.symm)] at hl
      obtain ⟨c1, c2, c3⟩ := h.hbuf k l hl
      refine ⟨c1, ?_, ?_⟩
      · rw [List.getElem?_set_ne (by omega), List.getElem?_set_ne (by omega), List.getElem?_set_ne (by omega), List.getElem?_set_ne (by omega)]; exact c2
      · intro j s hj
        have hj3 : j < 3 := by have := (List.getElem?_eq_some_iff.1 hj).1; omega
        obtain ⟨q1, q2, q3⟩ := c3 j s hj
        refine ⟨?_, ?_, ?_⟩
        · rw [List.getElem?_set_ne (by omega), List.getElem?_set_ne (by omega), List.getElem?_set_ne (by omega), List.getElem?_set_ne (by omega)]; exact q1
        · rw [List.getElem?_set_ne (by omega), List.getElem?_set_ne (by omega), List.getElem?_set_ne (by omega), List.getElem?_set_ne (by omega)]; exact q2
        · rw [List.getElem?_set_ne (by omega), List.getElem?_set_ne (by omega), List.getElem?_set_ne (by omega), List.getElem?_set_ne (by omega)]; exact q3
  · intro y hy
    obtain ⟨r1, r2⟩ := h.hE y hy
    exact ⟨r1.fr f (by rintro g hg rfl; exact r1.ne_blk h.hb (by decide) hg), r2⟩

def LastOk (F : Nat → Prop) (w : World) (p : Nat) (t : Int) (P : PoolS) (e : Ending) (w' : World) : Prop :=
  ∃ bb mb fv C bufs free E i l, e = .returned (.pointer (some ⟨bb, i * 10, none⟩)) ∧ PoolR (gr F w w') w' p bb 0 mb fv C bufs free E ∧ bufs[i]? = some l ∧ l.length < 3 ∧ Fr F w w' ∧
    ∀ x, PInv (bufs.set i (l ++ [x])) free E { P with m := putS P.m t (get P.m t [] ++ [x]) }

theorem pool_last_ok (F : Nat → Prop) (w : World) (p : Nat) (P : PoolS) (h : PoolA F w p P) (t : Int) (ht : 1 ≤ t ∧ t ≤ 65535) (hok : ¬ ((get P.m t []).length % 3 = 0 ∧ P.n = P.used)) :
    Calls Tryz.prog 119 #[.pointer (some ⟨p,0,none⟩), .int .i64 t] w (LastOk F w p t P) := by
  obtain ⟨bb, mb, fv, C, bufs, free, E, h1, h2⟩ := h
  have hb3 : ∀ (i : Nat) l, bufs[i]? = some l → l.length ≤ 3 := fun i l hl => (h1.hbuf i l hl).1
  obtain ⟨g1, g2⟩ := h2.full_iff hb3 t
  by_cases c : (get P.m t []).length % 3 = 0
  · have hused := h2.used hb3
    have hfree : free ≠ [] := by rintro rfl; simp at hused; exact hok ⟨c, hused.symm⟩
    obtain ⟨a, rest, rfl⟩ := List.exists_cons_of_ne_nil hfree
    have ha := h2.mem_free (List.mem_cons_self ..)
    obtain ⟨k, rfl⟩ := Int.eq_ofNat_of_zero_le ha.1
    simp only [Int.toNat_natCast] at ha
    refine (last_new F w p bb 0 mb fv C bufs k rest E h1 t ha.2 (g1 c) h2.nodup (by have := h2.ids_small t; omega)).mono ?_
    rintro e w' ⟨rfl, fv', C', v', r1, r2⟩
    exact ⟨bb, mb, fv', C', bufs.set k [], rest, _, k, [], rfl, r1, by rw [List.getElem?_set_self ha.2], by simp, r2, fun x => h2.fresh hb3 ht (g1 c) v' x⟩
  · obtain ⟨pre, i, l, hids, hl, hl3⟩ := g2 c
    refine (last_room F w p bb 0 mb fv C bufs free E h1 t pre i hids l hl hl3).mono ?_
    rintro e w' ⟨rfl, hd⟩
    exact ⟨bb, mb, fv, C, bufs, free, E, i, l, rfl, (h1.fr (S := fun _ => False) hd.fr (fun _ _ h => h)).mono (fun _ => gr_in) (h1.bd.gr (S := fun _ => False) hd.fr), hl, hl3, hd.fr, fun x => h2.room ht hids hl x⟩

theorem pool_last_nil (F : Nat → Prop) (w : World) (p : Nat) (P : PoolS) (h : PoolA F w p P) (t : Int) (hok : (get P.m t []).length % 3 = 0 ∧ P.n = P.used) :
    Calls Tryz.prog 119 #[.pointer (some ⟨p,0,none⟩), .int .i64 t] w fun e w' => e = .returned (.pointer none) ∧ Dr w w' := by
  obtain ⟨bb, mb, fv, C, bufs, free, E, h1, h2⟩ := h
  have hb3 : ∀ (i : Nat) l, bufs[i]? = some l → l.length ≤ 3 := fun i l hl => (h1.hbuf i l hl).1
  have hused := h2.used hb3
  obtain rfl : free = [] := List.eq_nil_of_length_eq_zero (by omega)
  exact last_full F w p bb 0 mb fv C bufs E h1 t ((h2.full_iff hb3 t).1 hok.1)

set_option maxHeartbeats 2000000 in
theorem write_good (F : Nat → Prop) (w : World) (p : Nat) (P : PoolS) (h : PoolA F w p P) (t : Int) (s : ByteArray) (ht : 1 ≤ t ∧ t ≤ 65535) (hs : s.size ≤ 40) :
    Calls Tryz.prog 85 #[.pointer (some ⟨p,0,none⟩), .int .i64 t, .string s] w (WritePost F w p (P.write t s)) := by
  have hlen := h.len_small t
  obtain ⟨l, hl⟩ : ∃ l, get P.m t [] = l := ⟨_, rfl⟩
  have hw : P.write t s = if l.length % 3 = 0 ∧ P.n = P.used then (zSp, 6, P) else (⟨t, l.length + 1, s⟩, 0, { P with m := putS P.m t (l ++ [⟨t, l.length + 1, s⟩]) }) := by
    unfold PoolS.write; rw [if_neg (by omega), hl]
  have HW : Hid (P.write t s = if l.length % 3 = 0 ∧ P.n = P.used then (zSp, 6, P) else (⟨t, l.length + 1, s⟩, 0, { P with m := putS P.m t (l ++ [⟨t, l.length + 1, s⟩]) })) := hw
  rw [hl] at hlen
  have hsp : spOk ⟨t, l.length + 1, s⟩ = true := by simp [spOk]; omega
  have C1 : ∀ W, PoolA F W p P → Calls Tryz.prog 105 #[.pointer (some ⟨p,0,none⟩), .int .i64 t] W (NewSpans W l) := fun W hW => by
    have := pool_spansA F W p P hW t; rwa [hl] at this
  have C2 : ∀ W, Calls Tryz.prog 94 #[.agg #[.int .i64 t, .int .i64 (l.length + 1), .string s]] W (RetB true W) := fun W => by
    have := span_right ⟨t, l.length + 1, s⟩ W; rwa [hsp] at this
  have C3 : ∀ W, PoolA F W p P → l.length % 3 = 0 ∧ P.n = P.used → Calls Tryz.prog 119 #[.pointer (some ⟨p,0,none⟩), .int .i64 t] W (fun e w' => e = .returned (.pointer none) ∧ Dr W w') := fun W hW hc => pool_last_nil F W p P hW t (by rw [hl]; exact hc)
  have C4 : ∀ W, PoolA F W p P → ¬ (l.length % 3 = 0 ∧ P.n = P.used) → Calls Tryz.prog 119 #[.pointer (some ⟨p,0,none⟩), .int .i64 t] W (LastOk F W p t P) := fun W hW hc => pool_last_ok F W p P hW t ht (by rw [hl]; exact hc)
  have HL : Hid (get P.m t [] = l) := hl
  have hlen' : (l.length : Int) ≤ 48 := by omega
  have hlen0 : (0 : Int) ≤ (l.length : Int) := by omega
  clear hl hw hsp
  go_enter Tryz.func85, Tryz.ntmps85
  go_wp2_with fail
  refine (C1 _ (h.fr ((Fr.refl (fun _ => False) w).alloc _) (fun _ _ h => h))).mono ?_
  rintro e w1 ⟨v, rfl, hS, hG, hN, hF1⟩
  have hw01 : w.heap.size < w1.heap.size := by have := hF1.size; simp at this; omega
  have f1 : Fr (fun _ => False) w w1 := ((Fr.refl (fun _ => False) w).alloc _).trans hF1 (fun _ _ h => h)
  have B0 := (Blk.new w [.int .i64 0, .int .i64 0, .string ByteArray.empty] 37).fr hF1 (fun h => h)
  obtain ⟨va, vc, hv⟩ : ∃ va vc, v = .slice va l.length vc := by
    rcases hS.shape with ⟨hv, h0⟩ | ⟨g, off, cap, hv, _⟩
    · rw [h0]; exact ⟨_, _, hv⟩
    · exact ⟨_, _, hv⟩
  subst hv
  go_wp2_with fail
  refine (C2 _).mono ?_
  rintro e w2 ⟨rfl, hF2⟩
  have f2 : Fr (fun _ => False) w1 w2 := ((Fr.refl (fun _ => False) w1).alloc _).trans hF2 (fun _ _ h => h)
  have B2 := B0.fr f2 (fun h => h)
  have X2 := (Blk.new w1 [.int .i64 t, .int .i64 (l.length + 1), .string s] 37).fr hF2 (fun h => h)
  have f12 := f1.trans f2 (fun _ _ h => h)
  have hs12 := f2.size
  have hA2 := h.fr f12 (fun _ _ h => h)
  clear B0 hS hG hN hF1 hF2 C1 C2
  go_wp2_with fail
  by_cases hc : l.length % 3 = 0 ∧ P.n = P.used
  · refine (C3 _ hA2 hc).mono ?_
    rintro e w3 ⟨rfl, hD3⟩
    have f3 := f12.trans hD3.fr (fun _ _ h => h)
    have B3 := B2.fr (S := fun _ => False) hD3.fr (fun h => h)
    have k0 := B3.get (i := 0) rfl
    have k1 := B3.get (i := 1) rfl
    have k2 := B3.get (i := 2) rfl
    have z0 := B3.frozen 0
    have z1 := B3.frozen 1
    have z2 := B3.frozen 2
    clear B2 X2 hD3 C3 C4 f12 f1 f2 hA2
    have HC : Hid (l.length % 3 = 0 ∧ P.n = P.used) := hc
    clear hc
    go_wp2
    have f3 := ((f3.setCell (p := ⟨w.heap.size, 0, none⟩) (fun h => absurd h (Nat.lt_irrefl _)) (.int .i64 0)).setCell (p := ⟨w.heap.size, 1, none⟩) (fun h => absurd h (Nat.lt_irrefl _)) (.int .i64 0)).setCell (p := ⟨w.heap.size, 2, none⟩) (fun h => absurd h (Nat.lt_irrefl _)) (.string ByteArray.empty)
    rw [HW.out, if_pos HC.out]
    exact bodyPost_ret (v := errV zSp 6) (by simp [results, Tryz.results85, go_sem, k0, k1, k2, errV, zSp]) rfl ⟨rfl, h.kept f3, f3.mono (fun _ _ h => h.elim)⟩
  · refine (C4 _ hA2 hc).mono ?_
    rintro e w3 ⟨bb, mb, fv, C, bufs, free, E, i, m, rfl, hR3, hm, hm3, hF3, hinv⟩
    rw [HW.out, if_neg hc]
    have X3 : Blk w3 w1.heap.size 37 _ := X2.fr hF3 (fun hh => by have := h.bd _ hh; have := f1.size; omega)
    have B3 : Blk w3 w.heap.size 37 _ := B2.fr hF3 (fun hh => by have := h.bd _ hh; omega)
    have hil : i < bufs.length := (List.getElem?_eq_some_iff.1 hm).1
    obtain ⟨b1, b2, b3⟩ := hR3.hbuf i m hm
    have hC := hR3.hC
    have j9 := hR3.hb.get b2
    obtain ⟨y0, hy0⟩ : ∃ y, C[i * 10 + m.length * 3]? = some y := ⟨_, List.getElem?_eq_getElem (by omega)⟩
    obtain ⟨y1, hy1⟩ : ∃ y, C[i * 10 + m.length * 3 + 1]? = some y := ⟨_, List.getElem?_eq_getElem (by omega)⟩
    obtain ⟨y2, hy2⟩ : ∃ y, C[i * 10 + m.length * 3 + 2]? = some y := ⟨_, List.getElem?_eq_getElem (by omega)⟩
    have j0 := hR3.hb.get hy0
    have j1 := hR3.hb.get hy1
    have j2 := hR3.hb.get hy2
    have u0 := hR3.hb.frozen (i * 10 + m.length * 3)
    have u1 := hR3.hb.frozen (i * 10 + m.length * 3 + 1)
    have u2 := hR3.hb.frozen (i * 10 + m.length * 3 + 2)
    have u9 := hR3.hb.frozen (i * 10 + 9)
    have x0 := X3.get (i := 0) rfl
    have x1 := X3.get (i := 1) rfl
    have x2 := X3.get (i := 2) rfl
    have k0 := B3.get (i := 0) rfl
    have k1 := B3.get (i := 1) rfl
    have k2 := B3.get (i := 2) rfl
    have z0 := B3.frozen 0
    have z1 := B3.frozen 1
    have z2 := B3.frozen 2
    have hbw : bb ≠ w.heap.size := fun e => by
      rcases hR3.fbb with h' | h'
      · have := h.bd _ h'; omega
      · have := f12.size; have := B2.lt; omega
    have hbw1 : bb ≠ w1.heap.size := fun e => by
      rcases hR3.fbb with h' | h'
      · have := h.bd _ h'; have := f1.size; omega
      · have := X2.lt; omega
    have hbw' : w.heap.size ≠ bb := fun e => hbw e.symm
    have hbw1' : w1.heap.size ≠ bb := fun e => hbw1 e.symm
    have hww : w.heap.size ≠ w1.heap.size := by omega
    obtain ⟨asm, fasm⟩ := write_asm hR3 hm hm3 ⟨t, l.length + 1, s⟩
    have hm3' : (m.length : Int) < 3 := by omega
    have hm0 : (0 : Int) ≤ (m.length : Int) := by omega
    have HA : Hid _ := hA2
    have HCC : Hid (¬ (l.length % 3 = 0 ∧ P.n = P.used)) := hc
    clear B2 X2 C3 C4 hA2 hc f1 f2 b1 b2 b3 hy0 hy1 hy2
    go_wp2
    go_region
    go_wp2
    have e1 : P.write t s = (⟨t, l.length + 1, s⟩, 0, { P with m := putS P.m t (l ++ [⟨t, l.length + 1, s⟩]) }) := HW.out.trans (if_neg HCC.out)
    rw [e1]
    have hsz := f12.size
    have fr3 := (Fr.set3 ((((w3.setCell ⟨bb, i * 10 + m.length * 3, none⟩ (.int .i64 t)).setCell ⟨bb, i * 10 + m.length * 3 + 1, none⟩ (.int .i64 (l.length + 1))).setCell ⟨bb, i * 10 + m.length * 3 + 2, none⟩ (.string s)).setCell ⟨bb, i * 10 + 9, none⟩ (.int .i64 (m.length + 1))) w.heap.size (.int .i64 t) (.int .i64 (l.length + 1)) (.string s)).drew
    have hR4 := asm.fr fr3 (by
      rintro k hk rfl
      rcases hk with h' | h'
      · have := h.bd _ h'; omega
      · have := B3.lt; have := h'.1; omega)
    have hFr := (((f12.mono (S' := F) (fun _ _ h => h.elim)).trans hF3 (fun k _ h => h)).trans ((fasm.mono (S' := fun k => k = bb ∨ k = w.heap.size) (fun k _ h => .inl h)).trans fr3 (fun k _ h => .inr h)) (fun k hk h => by
      rcases h with rfl | rfl
      · rcases hR3.fbb with h' | h'
        · exact h'
        · have := h'.1; omega
      · exact absurd hk (Nat.lt_irrefl _)))
    refine bodyPost_ret (v := errV ⟨t, l.length + 1, s⟩ 0) (by simp [results, Tryz.results85, go_sem, k0, k1, k2, errV]) rfl ⟨rfl, ⟨_, _, _, _, _, _, _, hR4.mono ?_ ?_, ?_⟩, hFr⟩
    · rintro k (h' | h')
      · exact gr_in h'
      · exact gr_new (Nat.le_trans hsz h'.1) (Nat.lt_of_lt_of_le h'.2 (Nat.le_trans fasm.size fr3.size))
    · exact h.bd.gr hFr
    · have := hinv ⟨t, l.length + 1, s⟩
      rw [HL.out] at this
      exact this

end Go.Proofs.YtkjggglmemafgaaGreat
