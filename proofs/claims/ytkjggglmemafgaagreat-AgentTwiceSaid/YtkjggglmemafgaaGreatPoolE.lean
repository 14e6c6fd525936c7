import Derived.Test.YtkjggglmemafgaaGreatPoolD
namespace Go.Proofs.YtkjggglmemafgaaGreat
open Go Go.RowKit
set_option maxRecDepth 20000

theorem pool_write (F : Nat → Prop) (w : World) (p : Nat) (P : PoolS) (h : PoolA F w p P) (t : Int) (s : ByteArray) :
    Calls Tryz.prog 85 #[.pointer (some ⟨p,0,none⟩), .int .i64 t, .string s] w (WritePost F w p (P.write t s)) := by
  by_cases c : t < 1 ∨ 65535 < t ∨ 40 < s.size
  · exact write_bad F w p P h t s c
  · exact write_good F w p P h t s (by omega) (by omega)

def PoolS.drop (P : PoolS) (t : Int) : PoolS := { P with m := del P.m t }

theorem del_flat {E : List (Int × Chain)} (hnd : (E.map (·.1)).Nodup) (t : Int) : (E.flatMap (·.2.2)).Perm ((get E t noChain).2 ++ (del E t).flatMap (·.2.2)) := by
  induction E with
  | nil => exact List.Perm.refl _
  | cons y E ih =>
    simp only [List.map_cons, List.nodup_cons] at hnd
    rw [get_cons, del_cons, List.flatMap_cons]
    by_cases e : y.1 = t
    · rw [if_pos e, if_pos e]
      have hd : del E t = E := by
        unfold del; rw [List.filter_eq_self.2]
        intro q hq; simp; intro h3; exact hnd.1 (by rw [e, ← h3]; exact List.mem_map_of_mem hq)
      rw [hd]
    · rw [if_neg e, if_neg e, List.flatMap_cons]
      refine ((ih hnd.2).append_left _).trans ?_
      rw [← List.append_assoc, ← List.append_assoc]
      exact List.perm_append_comm.append_right _

theorem PInv.drop {bufs : List (List Sp)} {free : List Int} {E : List (Int × Chain)} {P : PoolS} (h : PInv bufs free E P) (t : Int) : PInv bufs (free ++ (get E t noChain).2) (del E t) (P.drop t) := by
  refine ⟨h.len, h.small, ?_, ?_, fun x hx => h.ok x (mem_del.1 hx).1, ?_, h.srt.del t, fun x hx => h.keys x (mem_del.1 hx).1⟩
  · rw [List.append_assoc]
    exact ((del_flat h.nodup t).symm.append_left free).trans h.part
  · exact (List.filter_sublist.map (fun x : Int × Chain => x.1)).nodup h.nodup
  · have := del_perm h.abs t
    have e := del_mv (fun c : Chain => spansOf bufs c.2) E t
    exact (by rw [show (del E t).map (fun x => (x.1, spansOf bufs x.2.2)) = del (E.map fun x => (x.1, spansOf bufs x.2.2)) t from e.symm]; exact this)

def DropPost (F : Nat → Prop) (w : World) (p : Nat) (P : PoolS) (t : Int) (e : Ending) (w' : World) : Prop :=
  e = .returned (.int .i64 (bufsN (get P.m t []))) ∧ PoolA (gr F w w') w' p (P.drop t) ∧ Fr F w w'

set_option maxHeartbeats 1000000 in
theorem pool_drop (F : Nat → Prop) (w : World) (p : Nat) (P : PoolS) (h : PoolA F w p P) (t : Int) :
    Calls Tryz.prog 124 #[.pointer (some ⟨p,0,none⟩), .int .i64 t] w (DropPost F w p P t) := by
  obtain ⟨bb, mb, fv, C, bufs, free, E, h, hi⟩ := h
  have hb3 : ∀ (i : Nat) l, bufs[i]? = some l → l.length ≤ 3 := fun i l hl => (h.hbuf i l hl).1
  have hret : bufsN (get P.m t []) = (get E t noChain).2.length := by
    rw [← hi.get_abs t]
    cases hh : has E t with
    | false => rw [get_of_not hh]; simp [noChain, spansOf, bufsN]
    | true => exact chainOk_len hb3 (hi.ok _ (mem_of_has hh noChain))
  have hfl : free.length ≤ 16 := by
    have := hi.part.length_eq; have := hi.small; simp at *; omega
  have hcl := hi.ids_small t
  obtain ⟨fa, fc, rfl⟩ : ∃ fa fc, fv = .slice fa free.length fc := by
    rcases h.hf.shape with ⟨hv, h0⟩ | ⟨g, off, cap, hv, _⟩
    · rw [h0]; exact ⟨_, _, hv⟩
    · exact ⟨_, _, hv⟩
  have c1 := h.hp.get (i := 1) rfl
  have c2 := h.hp.get (i := 2) rfl
  have z1 := h.hp.frozen 1
  have h1 := h.hm
  have hch := chain_of h t
  obtain ⟨va, vc, hv⟩ : ∃ va vc, (get E t noChain).1 = .slice va (get E t noChain).2.length vc := by
    rcases hch.shape with ⟨hv, h0⟩ | ⟨g, off, cap, hv, _⟩
    · rw [h0]; exact ⟨_, _, hv⟩
    · exact ⟨_, _, hv⟩
  obtain ⟨ids, hids⟩ : ∃ ids, (get E t noChain).2 = ids := ⟨_, rfl⟩
  have HI : Hid ((get E t noChain).2 = ids) := hids
  have hfs := h.hf
  rw [hids] at hv hch hret hcl
  rw [hv] at hch
  have hrd := hch.rd
  obtain ⟨ess, cks, hents, -⟩ := im_ents h.hm
  have NP : Value.ownBlock (.slice fa free.length fc) ≠ some p := h.hf.ne_blk h.hp (by decide)
  have NM : Value.ownBlock (.slice fa free.length fc) ≠ some mb := h.hf.ne_ents hents
  have HR : Hid (bufsN (get P.m t []) = ids.length) := hret
  clear hids hret hents
  have HV : Hid ((get E t noChain).1 = .slice va ids.length vc) := hv
  go_enter Tryz.func124, Tryz.ntmps124
  go_wp2_with (at_builtin; refine wpList_append_sl _ rfl _ _ _ rfl el_int (v := .slice fa free.length fc) rfl hfs rfl hrd (by simp) (by simp [Value.oneCell']) (by omega) (by omega) ?_; intro v' w2 hs2 hg2 hb2 hn2; clear hn2; have hB2 := h.hp.grown hg2 NP; have k1 := hB2.get (i := 1) rfl; have k2 := hB2.get (i := 2) rfl; have y1 := hB2.frozen 1; have hm2 := im_grown h1 hg2 NM; obtain ⟨va', vc', rfl⟩ := hs2.lit)
  go_ret
  refine ⟨by rw [HR.out]; rfl, ?_, ?_⟩
  all_goals have f2 : Fr (fun k => Value.ownBlock (.slice fa free.length fc) = some k) w w2 := (Fr.refl _ w).grown hg2 (fun k _ e => e)
  all_goals have f4 : Fr (fun k => Value.ownBlock (.slice fa free.length fc) = some k ∨ k = p ∨ k = mb) w ((w2.setCell ⟨p, 1, none⟩ (.slice va' (free.length + ids.length) vc')).mdel mb t) :=
    ((f2.mono (fun _ _ h => .inl h)).setCell (p := ⟨p, 1, none⟩) (fun _ => .inr (.inl rfl)) _).mdel (fun _ => .inr (.inr rfl)) t
  all_goals have f5 : Fr F w ((w2.setCell ⟨p, 1, none⟩ (.slice va' (free.length + ids.length) vc')).mdel mb t) := f4.mono (by
    rintro k _ (e | rfl | rfl)
    · exact h.ff k e
    · exact h.fp
    · exact h.fm)
  · obtain ⟨_, _, hents, -⟩ := im_ents h.hm
    have npm : p ≠ mb := h.hp.ne_map h.hm
    have nmp : mb ≠ p := fun e => npm e.symm
    have hpi := hi.drop t
    rw [HI.out] at hpi
    refine ⟨bb, mb, _, C, bufs, _, _, ⟨(hB2.set 1 _).mdel mb t, ?_, h.hC, h.hbuf, ?_, ?_, ?_, h.hne.filter _, gr_in h.fp, gr_in h.fbb, gr_in h.fm, ?_, h.bd.gr f5⟩, hpi⟩
    · refine h.hb.fr f4 ?_
      rintro (e | rfl | rfl)
      · exact h.hf.ne_blk h.hb (by decide) e
      · exact h.hp.ne h.hb (by decide) rfl
      · exact h.hb.ne_map h.hm rfl
    · rw [List.length_append, List.map_append]
      refine hs2.fr (((Fr.refl (fun k => k = p ∨ k = mb) w2).setCell (p := ⟨p, 1, none⟩) (fun _ => .inl rfl) _).mdel (fun _ => .inr rfl) t) ?_
      rintro g hg (rfl | rfl)
      · exact hs2.ne_blk hB2 (by decide) hg
      · obtain ⟨_, _, he2, -⟩ := im_ents hm2
        exact hs2.ne_ents he2 hg
    · rw [im_mdel (L := mv Prod.fst E) (by simpa using hm2), del_mv]; rfl
    · intro x hx
      obtain ⟨hx, hn⟩ := mem_del.1 hx
      obtain ⟨r1, r2⟩ := h.hE x hx
      refine ⟨r1.fr f4 ?_, fun g hg => ⟨gr_in (r2 g hg).1, ?_⟩⟩
      · rintro g hg (e | rfl | rfl)
        · exact (r2 g hg).2 e
        · exact r1.ne_blk h.hp (by decide) hg
        · exact r1.ne_ents hents hg
      · rcases hb2 with e | e
        · rw [e]; exact (r2 g hg).2
        · rw [e]; intro e2; have := r1.lt hg; simp at e2; omega
    · intro g hg
      rcases hb2 with e | e
      · exact gr_in (h.ff g (by rw [← e]; exact hg))
      · rw [e] at hg; simp at hg; subst hg
        refine gr_new (Nat.le_refl _) ?_
        have := hs2.lt (by exact e)
        simpa using this
  · exact f5

theorem pool_free (F : Nat → Prop) (w : World) (p : Nat) (P : PoolS) (h : PoolA F w p P) :
    Calls Tryz.prog 110 #[.pointer (some ⟨p,0,none⟩)] w fun e w' => e = .returned (.int .i64 ((P.n : Int) - P.used)) ∧ w = w' := by
  obtain ⟨bb, mb, fv, C, bufs, free, E, h, hi⟩ := h
  have hb3 : ∀ (i : Nat) l, bufs[i]? = some l → l.length ≤ 3 := fun i l hl => (h.hbuf i l hl).1
  have hu := hi.used hb3
  have e : (P.n : Int) - P.used = free.length := by omega
  rw [e]
  obtain ⟨fa, fc, rfl⟩ := h.hf.lit
  have c1 := h.hp.get (i := 1) rfl
  clear hu e hb3 hi h
  go_enter Tryz.func110, Tryz.ntmps110
  go_wp2
  go_ret
  exact ⟨rfl, rfl⟩
theorem pool_size (F : Nat → Prop) (w : World) (p : Nat) (P : PoolS) (h : PoolA F w p P) :
    Calls Tryz.prog 109 #[.pointer (some ⟨p,0,none⟩)] w fun e w' => e = .returned (.int .i64 P.n) ∧ w = w' := by
  obtain ⟨bb, mb, fv, C, bufs, free, E, h, hi⟩ := h
  rw [← hi.len]
  have c1 := h.hp.get (i := 0) rfl
  clear hi h
  go_enter Tryz.func109, Tryz.ntmps109
  go_wp2
  go_ret
  exact ⟨rfl, rfl⟩

end Go.Proofs.YtkjggglmemafgaaGreat
