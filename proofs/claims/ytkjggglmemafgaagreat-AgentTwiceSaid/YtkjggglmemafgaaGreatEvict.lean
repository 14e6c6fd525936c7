import Derived.Test.YtkjggglmemafgaaGreatEvA
namespace Go.Proofs.YtkjggglmemafgaaGreat
open Go Go.RowKit
set_option maxRecDepth 20000

/-! ### map[int]bool -/
theorem lookup_bools (w : World) (m : Nat) (k : Int) (co : Bool) (h : (w.im m).isSome = true) :
    (Instr.lookup 154 (.map (some m)) (.int .i64 k) co).run Tryz.prog w = .ok (if co then .tuple #[get ((w.im m).getD []) k (.bool false), .bool (has ((w.im m).getD []) k)] else get ((w.im m).getD []) k (.bool false)) w :=
  run_lookup_im (K := 3) (E := 4) (by kernel_rfl) (by kernel_rfl) (fun _ => by kernel_rfl) w m k co h
theorem update_bools (w : World) (m : Nat) (k : Int) (v : Value) (h : (w.im m).isSome = true) :
    (Instr.mapUpdate 154 (.map (some m)) (.int .i64 k) v).run Tryz.prog w = .ok () (w.mput m k v) :=
  run_mapUpdate_im (K := 3) (E := 4) (by kernel_rfl) (by kernel_rfl) w m k v h
theorem delete_bools (w : World) (m : Nat) (k : Int) (ty : TypeId) (h : (w.im m).isSome = true) :
    (Builtin.delete_ #[154, 3] ty #[.map (some m), .int .i64 k]).run Tryz.prog w = .ok (.tuple #[]) (w.mdel m k) :=
  run_delete_im (K := 3) (E := 4) (by kernel_rfl) (by kernel_rfl) w m k _ ty h
theorem get_bools (L : List (Int × Bool)) (k : Int) : get (mv Value.bool L) k (.bool false) = .bool (get L k false) := get_mv _ _ _ _
attribute [go_sem] lookup_bools update_bools delete_bools get_bools

/-! ### spoor/evict -/
structure KeepM where
  P : PoolS
  seed : Int
  pins : Int → Bool
  lost : Int → Bool
  gone : List Int
structure KeepR (F Fp : Nat → Prop) (w : World) (b p pb lb : Nat) (gv : Value) (Lp Ll : List (Int × Bool)) (m : KeepM) : Prop where
  hB : Blk w b 156 [.pointer (some ⟨p, 0, none⟩), .int .u64 m.seed, .map (some pb), .map (some lb), gv]
  hP : PoolA Fp w p m.P
  ip : w.im pb = some (mv Value.bool Lp)
  il : w.im lb = some (mv Value.bool Ll)
  ep : ∀ t, get Lp t false = m.pins t
  el : ∀ t, get Ll t false = m.lost t
  hg : Sl w 3 1 gv m.gone.length (m.gone.map (Value.int .i64))
  hn : gv = .slice none 0 0 ↔ m.gone = []
  fb : F b
  fpb : F pb
  flb : F lb
  fg : ∀ g, gv.ownBlock = some g → F g
  fP : ∀ k, Fp k → F k
  nP : ¬ Fp b ∧ ¬ Fp pb ∧ ¬ Fp lb ∧ ∀ g, gv.ownBlock = some g → ¬ Fp g
  npl : pb ≠ lb
  bd : Bd F w
def KeepA (F : Nat → Prop) (w : World) (b : Nat) (m : KeepM) : Prop := ∃ Fp p pb lb gv Lp Ll, KeepR F Fp w b p pb lb gv Lp Ll m

theorem KeepA.fr {F S : Nat → Prop} {w w' : World} {b : Nat} {m : KeepM} (h : KeepA F w b m) (hf : Fr S w w') (hs : ∀ k, F k → ¬ S k) : KeepA F w' b m := by
  obtain ⟨Fp, p, pb, lb, gv, Lp, Ll, h⟩ := h
  exact ⟨Fp, p, pb, lb, gv, Lp, Ll, ⟨h.hB.fr hf (hs _ h.fb), h.hP.fr hf (fun k hk => hs _ (h.fP k hk)), hf.im h.ip (hs _ h.fpb), hf.im h.il (hs _ h.flb), h.ep, h.el, h.hg.fr hf (fun g hg => hs _ (h.fg g hg)), h.hn, h.fb, h.fpb, h.flb, h.fg, h.fP, h.nP, h.npl, h.bd.fr hf⟩⟩
theorem KeepA.mono {F F' : Nat → Prop} {w : World} {b : Nat} {m : KeepM} (h : KeepA F w b m) (hf : ∀ k, F k → F' k) (bd : Bd F' w) : KeepA F' w b m := by
  obtain ⟨Fp, p, pb, lb, gv, Lp, Ll, h⟩ := h
  exact ⟨Fp, p, pb, lb, gv, Lp, Ll, ⟨h.hB, h.hP, h.ip, h.il, h.ep, h.el, h.hg, h.hn, hf _ h.fb, hf _ h.fpb, hf _ h.flb, fun g hg => hf _ (h.fg g hg), fun k hk => hf _ (h.fP k hk), h.nP, h.npl, bd⟩⟩
theorem KeepA.bd {F : Nat → Prop} {w : World} {b : Nat} {m : KeepM} (h : KeepA F w b m) : Bd F w := by
  obtain ⟨Fp, p, pb, lb, gv, Lp, Ll, h⟩ := h
  exact KeepR.bd h
theorem KeepA.kept {F : Nat → Prop} {w w' : World} {b : Nat} {m : KeepM} (h : KeepA F w b m) (hf : Fr (fun _ => False) w w') : KeepA (gr F w w') w' b m :=
  (h.fr hf (fun _ _ h => h)).mono (fun _ => gr_in) (h.bd.gr hf)

theorem Sl.ne_im {w : World} {e : TypeId} {sz n : Nat} {v : Value} {xs : List Value} (h : Sl w e sz v n xs) {m : Nat} {x} (hm : w.im m = some x) : v.ownBlock ≠ some m := by
  obtain ⟨es, ck, he, -⟩ := im_ents hm; exact h.ne_ents he

theorem quiet_same {P : Program} {f : FuncId} {args : Array Value} {w : World} {n : Nat} {v : Value}
    (h : Calls P f args (w.drewN n) fun e w' => e = .returned v ∧ w.drewN n = w') : Calls P f args (w.drewN n) fun e w'' => e = .returned v ∧ ∃ m, w'' = w.drewN m :=
  h.mono fun _ _ ⟨he, hm⟩ => ⟨he, n, hm.symm⟩

def setT (f : Int → Bool) (t : Int) (v : Bool) : Int → Bool := fun k => if t = k then v else f k

def VoidPost (F : Nat → Prop) (w : World) (X : World → Prop) (e : Ending) (w' : World) : Prop := e = .returned (.tuple #[]) ∧ X w' ∧ Fr F w w'

theorem keep_lost (F : Nat → Prop) (b : Nat) (m : KeepM) (t : Int) (w : World) (h : KeepA F w b m) :
    Calls Tryz.prog 55 #[.pointer (some ⟨b,0,none⟩), .int .i64 t] w fun e w' => e = .returned (.bool (m.lost t)) ∧ w = w' := by
  obtain ⟨Fp, p, pb, lb, gv, Lp, Ll, h⟩ := h
  rw [← h.el t]
  have c3 := h.hB.get (i := 3) rfl
  have il := h.il
  clear h
  go_enter Tryz.func55, Tryz.ntmps55
  go_wp2
  go_ret
  exact ⟨rfl, rfl⟩

theorem KeepR.setPin {F Fp : Nat → Prop} {w : World} {b p pb lb : Nat} {gv : Value} {Lp Ll : List (Int × Bool)} {m : KeepM} (h : KeepR F Fp w b p pb lb gv Lp Ll m) (t : Int) :
    KeepR F Fp (w.mput pb t (.bool true)) b p pb lb gv (put Lp t true) Ll { m with pins := setT m.pins t true } := by
  have hF : Fr (fun k => k = pb) w (w.mput pb t (.bool true)) := Fr.mput (S := fun k => k = pb) (Fr.refl _ w) (fun _ => rfl) _ _
  exact ⟨h.hB.mput _ _ _, h.hP.fr hF (fun k hk e => h.nP.2.1 (e ▸ hk)), by rw [im_mput h.ip, ← put_mv], by rw [im_mput_ne (Ne.symm h.npl)]; exact h.il, fun k => by rw [get_put, h.ep]; rfl, h.el, h.hg.fr hF (fun g hg e => h.hg.ne_im h.ip (e ▸ hg)), h.hn, h.fb, h.fpb, h.flb, h.fg, h.fP, h.nP, h.npl, h.bd.fr hF⟩
theorem KeepR.delPin {F Fp : Nat → Prop} {w : World} {b p pb lb : Nat} {gv : Value} {Lp Ll : List (Int × Bool)} {m : KeepM} (h : KeepR F Fp w b p pb lb gv Lp Ll m) (t : Int) :
    KeepR F Fp (w.mdel pb t) b p pb lb gv (del Lp t) Ll { m with pins := setT m.pins t false } := by
  have hF : Fr (fun k => k = pb) w (w.mdel pb t) := Fr.mdel (S := fun k => k = pb) (Fr.refl _ w) (fun _ => rfl) _
  exact ⟨h.hB.mdel _ _, h.hP.fr hF (fun k hk e => h.nP.2.1 (e ▸ hk)), by rw [im_mdel h.ip, del_mv], by rw [im_mdel_ne (Ne.symm h.npl)]; exact h.il, fun k => by rw [get_del, h.ep]; rfl, h.el, h.hg.fr hF (fun g hg e => h.hg.ne_im h.ip (e ▸ hg)), h.hn, h.fb, h.fpb, h.flb, h.fg, h.fP, h.nP, h.npl, h.bd.fr hF⟩
theorem KeepR.setLost {F Fp : Nat → Prop} {w : World} {b p pb lb : Nat} {gv : Value} {Lp Ll : List (Int × Bool)} {m : KeepM} (h : KeepR F Fp w b p pb lb gv Lp Ll m) (t : Int) :
    KeepR F Fp (w.mput lb t (.bool true)) b p pb lb gv Lp (put Ll t true) { m with lost := setT m.lost t true } := by
  have hF : Fr (fun k => k = lb) w (w.mput lb t (.bool true)) := Fr.mput (S := fun k => k = lb) (Fr.refl _ w) (fun _ => rfl) _ _
  exact ⟨h.hB.mput _ _ _, h.hP.fr hF (fun k hk e => h.nP.2.2.1 (e ▸ hk)), by rw [im_mput_ne h.npl]; exact h.ip, by rw [im_mput h.il, ← put_mv], h.ep, fun k => by rw [get_put, h.el]; rfl, h.hg.fr hF (fun g hg e => h.hg.ne_im h.il (e ▸ hg)), h.hn, h.fb, h.fpb, h.flb, h.fg, h.fP, h.nP, h.npl, h.bd.fr hF⟩
theorem KeepR.delLost {F Fp : Nat → Prop} {w : World} {b p pb lb : Nat} {gv : Value} {Lp Ll : List (Int × Bool)} {m : KeepM} (h : KeepR F Fp w b p pb lb gv Lp Ll m) (t : Int) :
    KeepR F Fp (w.mdel lb t) b p pb lb gv Lp (del Ll t) { m with lost := setT m.lost t false } := by
  have hF : Fr (fun k => k = lb) w (w.mdel lb t) := Fr.mdel (S := fun k => k = lb) (Fr.refl _ w) (fun _ => rfl) _
  exact ⟨h.hB.mdel _ _, h.hP.fr hF (fun k hk e => h.nP.2.2.1 (e ▸ hk)), by rw [im_mdel_ne h.npl]; exact h.ip, by rw [im_mdel h.il, del_mv], h.ep, fun k => by rw [get_del, h.el]; rfl, h.hg.fr hF (fun g hg e => h.hg.ne_im h.il (e ▸ hg)), h.hn, h.fb, h.fpb, h.flb, h.fg, h.fP, h.nP, h.npl, h.bd.fr hF⟩
/-- the pool did something -/
theorem KeepR.pool {F Fp : Nat → Prop} {w w' : World} {b p pb lb : Nat} {gv : Value} {Lp Ll : List (Int × Bool)} {m : KeepM} (h : KeepR F Fp w b p pb lb gv Lp Ll m) {P' : PoolS} (hP : PoolA (gr Fp w w') w' p P') (hF : Fr Fp w w') :
    KeepR (gr F w w') (gr Fp w w') w' b p pb lb gv Lp Ll { m with P := P' } := by
  have hb := h.hB.lt
  have hp := im_lt h.ip
  have hl := im_lt h.il
  refine ⟨h.hB.fr hF h.nP.1, hP, hF.im h.ip h.nP.2.1, hF.im h.il h.nP.2.2.1, h.ep, h.el, h.hg.fr hF h.nP.2.2.2, h.hn, gr_in h.fb, gr_in h.fpb, gr_in h.flb, fun g hg => gr_in (h.fg g hg), fun k hk => hk.imp (h.fP k) id, ⟨fun e => h.nP.1 (gr_old e hb), fun e => h.nP.2.1 (gr_old e hp), fun e => h.nP.2.2.1 (gr_old e hl), fun g hg e => h.nP.2.2.2 g hg (gr_old e (h.hg.lt hg))⟩, h.npl, h.bd.gr hF⟩
theorem KeepR.frU {F Fp S : Nat → Prop} {w w' : World} {b p pb lb : Nat} {gv : Value} {Lp Ll : List (Int × Bool)} {m : KeepM} (h : KeepR F Fp w b p pb lb gv Lp Ll m) (hf : Fr S w w') (hs : ∀ k, F k → ¬ S k) : KeepR F Fp w' b p pb lb gv Lp Ll m :=
  ⟨h.hB.fr hf (hs _ h.fb), h.hP.fr hf (fun k hk => hs _ (h.fP k hk)), hf.im h.ip (hs _ h.fpb), hf.im h.il (hs _ h.flb), h.ep, h.el, h.hg.fr hf (fun g hg => hs _ (h.fg g hg)), h.hn, h.fb, h.fpb, h.flb, h.fg, h.fP, h.nP, h.npl, h.bd.fr hf⟩

theorem KeepR.wide {F F' Fp : Nat → Prop} {w : World} {b p pb lb : Nat} {gv : Value} {Lp Ll : List (Int × Bool)} {m : KeepM} (h : KeepR F Fp w b p pb lb gv Lp Ll m) (hf : ∀ k, F k → F' k) (bd : Bd F' w) : KeepR F' Fp w b p pb lb gv Lp Ll m :=
  ⟨h.hB, h.hP, h.ip, h.il, h.ep, h.el, h.hg, h.hn, hf _ h.fb, hf _ h.fpb, hf _ h.flb, fun g hg => hf _ (h.fg g hg), fun k hk => hf _ (h.fP k hk), h.nP, h.npl, bd⟩

theorem keep_pin (F : Nat → Prop) (b : Nat) (m : KeepM) (t : Int) (w : World) (h : KeepA F w b m) :
    Calls Tryz.prog 100 #[.pointer (some ⟨b,0,none⟩), .int .i64 t] w (VoidPost F w fun w' => KeepA F w' b { m with pins := setT m.pins t true }) := by
  obtain ⟨Fp, p, pb, lb, gv, Lp, Ll, h⟩ := h
  have H : Hid (KeepA F (w.mput pb t (.bool true)) b { m with pins := setT m.pins t true }) := ⟨Fp, p, pb, lb, gv, _, _, h.setPin t⟩
  have HF : Hid (Fr F w (w.mput pb t (.bool true))) := (Fr.refl _ w).mput (fun _ => h.fpb) _ _
  have c2 := h.hB.get (i := 2) rfl
  have ip := h.ip
  clear h
  go_enter Tryz.func100, Tryz.ntmps100
  go_wp2
  go_end0
  exact ⟨rfl, H.out, HF.out⟩
theorem keep_unpin (F : Nat → Prop) (b : Nat) (m : KeepM) (t : Int) (w : World) (h : KeepA F w b m) :
    Calls Tryz.prog 59 #[.pointer (some ⟨b,0,none⟩), .int .i64 t] w (VoidPost F w fun w' => KeepA F w' b { m with pins := setT m.pins t false }) := by
  obtain ⟨Fp, p, pb, lb, gv, Lp, Ll, h⟩ := h
  have H : Hid (KeepA F (w.mdel pb t) b { m with pins := setT m.pins t false }) := ⟨Fp, p, pb, lb, gv, _, _, h.delPin t⟩
  have HF : Hid (Fr F w (w.mdel pb t)) := (Fr.refl _ w).mdel (fun _ => h.fpb) _
  have c2 := h.hB.get (i := 2) rfl
  have ip := h.ip
  clear h
  go_enter Tryz.func59, Tryz.ntmps59
  go_wp2
  go_end0
  exact ⟨rfl, H.out, HF.out⟩

def KeepM.forget (m : KeepM) (t : Int) : KeepM := { m with P := m.P.drop t, pins := setT m.pins t false, lost := setT m.lost t false }
theorem keep_forget (F : Nat → Prop) (b : Nat) (m : KeepM) (t : Int) (w : World) (h : KeepA F w b m) :
    Calls Tryz.prog 103 #[.pointer (some ⟨b,0,none⟩), .int .i64 t] w fun e w' => e = .returned (.tuple #[]) ∧ KeepA (gr F w w') w' b (m.forget t) ∧ Fr F w w' := by
  obtain ⟨Fp, p, pb, lb, gv, Lp, Ll, h⟩ := h
  have h2 := (h.delPin t).delLost t
  have HF : Hid (Fr F w ((w.mdel pb t).mdel lb t)) := ((Fr.refl _ w).mdel (fun _ => h.fpb) _).mdel (fun _ => h.flb) _
  have c0 := h.hB.get (i := 0) rfl
  have c2 := h.hB.get (i := 2) rfl
  have c3 := h.hB.get (i := 3) rfl
  have ip := h.ip
  have il := h.il
  have npl := h.npl
  have npl' := Ne.symm h.npl
  clear h
  go_enter Tryz.func103, Tryz.ntmps103
  go_wp2_with fail
  refine (pool_drop Fp _ p m.P h2.hP t).mono ?_
  rintro e w1 ⟨rfl, hP, hF⟩
  have H2 : Hid _ := h2.pool hP hF
  have HF2 : Hid _ := HF.out.trans hF (fun k _ hk => h2.fP k hk)
  have hgr : ∀ k, gr F ((w.mdel pb t).mdel lb t) w1 k → gr F w w1 k := fun k hk => by simpa only [gr, size_mdel] using hk
  have hgr' : ∀ k, gr F w w1 k → gr F ((w.mdel pb t).mdel lb t) w1 k := fun k hk => by simpa only [gr, size_mdel] using hk
  clear h2 hP hF
  go_wp2
  go_end0
  exact ⟨rfl, ⟨_, _, _, _, _, _, _, KeepR.wide H2.out hgr (fun k hk => H2.out.bd k (hgr' k hk))⟩, HF2.out⟩

theorem keep_spans (F : Nat → Prop) (b : Nat) (m : KeepM) (t : Int) (w : World) (h : KeepA F w b m) :
    Calls Tryz.prog 53 #[.pointer (some ⟨b,0,none⟩), .int .i64 t] w (NewSpans w (get m.P.m t [])) := by
  obtain ⟨Fp, p, pb, lb, gv, Lp, Ll, h⟩ := h
  have c0 := h.hB.get (i := 0) rfl
  have H := pool_spansA Fp w p m.P h.hP t
  clear h
  go_enter Tryz.func53, Tryz.ntmps53
  go_wp2_with fail
  refine H.mono ?_
  intro e w1 hN
  have HN : Hid _ := hN
  obtain ⟨v, rfl, -⟩ := hN
  go_wp2
  go_ret
  exact HN.out

theorem keep_used (F : Nat → Prop) (b : Nat) (m : KeepM) (w : World) (h : KeepA F w b m) :
    Calls Tryz.prog 60 #[.pointer (some ⟨b,0,none⟩)] w fun e w' => e = .returned (.int .i64 m.P.used) ∧ Fr (fun _ => False) w w' := by
  obtain ⟨Fp, p, pb, lb, gv, Lp, Ll, h⟩ := h
  have c0 := h.hB.get (i := 0) rfl
  have H1 : ∀ n, _ := fun n => pool_size Fp (w.drewN n) p m.P (h.hP.fr ((Fr.refl (fun _ => False) w).drewN n) (fun _ _ h => h))
  have H2 : ∀ n, _ := fun n => pool_free Fp (w.drewN n) p m.P (h.hP.fr ((Fr.refl (fun _ => False) w).drewN n) (fun _ _ h => h))
  have hs : (m.P.n : Int) ≤ 16 := by
    obtain ⟨bb, mb, fv, C, bufs, free, E, h1, h2⟩ := h.hP
    have := h2.small; omega
  have hu : (m.P.used : Int) ≤ m.P.n := by
    obtain ⟨bb, mb, fv, C, bufs, free, E, h1, h2⟩ := h.hP
    have := h2.used (fun i l hl => (h1.hbuf i l hl).1); omega
  have hu0 : (0 : Int) ≤ m.P.used := by omega
  have hn0 : (0 : Int) ≤ m.P.n := by omega
  clear h
  go_enter Tryz.func60, Tryz.ntmps60
  go_wp2_with fail
  go_quiet (first | (go_at_call 109; exact quiet_same (H1 _)) | (go_at_call 110; exact quiet_same (H2 _)))
  go_wp2
  go_ret
  exact ⟨by go_num, (Fr.refl _ _).drewN _⟩

/-! ### slices.Clone -/
theorem Sl.empty (w : World) (T : TypeId) (sz : Nat) : Sl (w.alloc (.cells #[] T)) T sz (.slice (some ⟨w.heap.size, 0, none⟩) 0 0) 0 [] :=
  ⟨by simp, .inr ⟨w.heap.size, 0, 0, #[], rfl, heap_alloc_new w _, Nat.le_refl _, by simp [maxLen], by simp, by simp⟩⟩
theorem eq_nil_ints (W : World) (a : Option Addr) (n c : Nat) : (binOp .eql 53 (.slice a n c) (.slice none 0 0)).run Tryz.prog W = .ok (.bool a.isNone) W := Lib.run_eql_slice_nil W _ 3 a n c 0 0 (by kernel_rfl)
attribute [go_sem] eq_nil_ints
theorem clone_ints (w : World) (v : Value) (l : List Int) (hS : Sl w 3 1 v l.length (l.map (Value.int .i64))) (hn : v = .slice none 0 0 ↔ l = []) (hl : (l.length : Int) ≤ 100000) :
    Calls Tryz.prog 106 #[v] w (NewInts w l) := by
  cases l with
  | nil =>
    have hv := hn.2 rfl
    subst hv
    have fin : NewInts w [] (.returned (.slice none 0 0)) w := ⟨_, rfl, Sl.nil _ _ _, by simp [Value.ownBlock], by simp, Fr.refl _ _⟩
    clear hn hS hl
    go_enter Tryz.func106, Tryz.ntmps106
    go_wp2
    go_ret
    exact fin
  | cons x xs =>
    rw [List.length_cons] at hS hl
    obtain ⟨g, off, cap, rfl, hg, hcap, hmx⟩ := hS.form (by omega)
    have hl' : (xs.length : Int) ≤ 100000 := by omega
    have hl0 : (0 : Int) ≤ (xs.length : Int) := by omega
    have HS : Hid _ := hS
    clear hn hS hl
    go_enter Tryz.func106, Tryz.ntmps106
    go_wp2_with (at_builtin; refine wpList_append_sl _ rfl _ _ _ rfl el_int (v := .slice (some ⟨w.heap.size, 0, none⟩) 0 0) rfl (Sl.empty _ _ _) rfl (by exact (Sl.alloc HS.out _).rd) (by simp) (by simp [Value.oneCell']) (by omega) (by omega) ?_; intro v' w2 hs2 hg2 hb2 hn2)
    have H : Hid (NewInts w (x :: xs) (.returned v') w2) := by
      refine ⟨_, rfl, ?_, ?_, ?_, ((Fr.refl _ w).alloc _).grown hg2 (fun k hk e => by simp [Value.ownBlock] at e; omega)⟩
      · simpa using hs2
      · intro q hq
        rcases hb2 with e | e
        · rw [e] at hq; simp [Value.ownBlock] at hq; omega
        · rw [e] at hq; simp at hq; omega
      · rw [hn2]; simp
    clear hs2 hg2 hb2 hn2
    go_wp2
    go_ret
    exact H.out
theorem keep_evicted (F : Nat → Prop) (b : Nat) (m : KeepM) (w : World) (h : KeepA F w b m) (hgl : (m.gone.length : Int) ≤ 100000) :
    Calls Tryz.prog 83 #[.pointer (some ⟨b,0,none⟩)] w (NewInts w m.gone) := by
  obtain ⟨Fp, p, pb, lb, gv, Lp, Ll, h⟩ := h
  have c4 := h.hB.get (i := 4) rfl
  have H := clone_ints w gv m.gone h.hg h.hn hgl
  obtain ⟨ga, gc, rfl⟩ := h.hg.lit
  clear h
  go_enter Tryz.func83, Tryz.ntmps83
  go_wp2_with fail
  refine H.mono ?_
  intro e w1 hN
  have HN : Hid _ := hN
  obtain ⟨v, rfl, -⟩ := hN
  go_wp2
  go_ret
  exact HN.out
end Go.Proofs.YtkjggglmemafgaaGreat
