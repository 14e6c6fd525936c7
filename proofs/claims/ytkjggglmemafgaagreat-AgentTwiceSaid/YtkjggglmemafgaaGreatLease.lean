import Derived.Test.YtkjggglmemafgaaGreatProg
import Derived.Test.YtkjggglmemafgaaGreatAl
namespace Go.Proofs.YtkjggglmemafgaaGreat
open Go Go.RowKit
set_option maxRecDepth 20000

/-! ### spoor/lease -/
def heldV (p : Int × Int) : Value := .agg #[.int .i64 p.1, .int .i64 p.2]
theorem field_held0 (p : Int × Int) (w : World) : (Instr.field 164 (heldV p) 0).run Tryz.prog w = .ok (.int .i64 p.1) w := by kernel_rfl
theorem field_held1 (p : Int × Int) (w : World) : (Instr.field 164 (heldV p) 1).run Tryz.prog w = .ok (.int .i64 p.2) w := by kernel_rfl
theorem lookup_held (w : World) (m : Nat) (k : Int) (co : Bool) (h : (w.im m).isSome = true) :
    (Instr.lookup 157 (.map (some m)) (.int .i64 k) co).run Tryz.prog w = .ok (if co then .tuple #[get ((w.im m).getD []) k (heldV (0,0)), .bool (has ((w.im m).getD []) k)] else get ((w.im m).getD []) k (heldV (0,0))) w :=
  run_lookup_im (K := 3) (E := 164) (by kernel_rfl) (by kernel_rfl) (fun _ => by kernel_rfl) w m k co h
theorem update_held (w : World) (m : Nat) (k : Int) (v : Value) (h : (w.im m).isSome = true) :
    (Instr.mapUpdate 157 (.map (some m)) (.int .i64 k) v).run Tryz.prog w = .ok () (w.mput m k v) :=
  run_mapUpdate_im (K := 3) (E := 164) (by kernel_rfl) (by kernel_rfl) w m k v h
theorem delete_held (w : World) (m : Nat) (k : Int) (ty : TypeId) (h : (w.im m).isSome = true) :
    (Builtin.delete_ #[157, 3] ty #[.map (some m), .int .i64 k]).run Tryz.prog w = .ok (.tuple #[]) (w.mdel m k) :=
  run_delete_im (K := 3) (E := 164) (by kernel_rfl) (by kernel_rfl) w m k _ ty h
theorem lookup_ints (w : World) (m : Nat) (k : Int) (co : Bool) (h : (w.im m).isSome = true) :
    (Instr.lookup 102 (.map (some m)) (.int .i64 k) co).run Tryz.prog w = .ok (if co then .tuple #[get ((w.im m).getD []) k (.int .i64 0), .bool (has ((w.im m).getD []) k)] else get ((w.im m).getD []) k (.int .i64 0)) w :=
  run_lookup_im (K := 3) (E := 3) (by kernel_rfl) (by kernel_rfl) (fun _ => by kernel_rfl) w m k co h
theorem update_ints (w : World) (m : Nat) (k : Int) (v : Value) (h : (w.im m).isSome = true) :
    (Instr.mapUpdate 102 (.map (some m)) (.int .i64 k) v).run Tryz.prog w = .ok () (w.mput m k v) :=
  run_mapUpdate_im (K := 3) (E := 3) (by kernel_rfl) (by kernel_rfl) w m k v h
theorem get_ints (L : List (Int × Int)) (k : Int) : get (mv (Value.int .i64) L) k (.int .i64 0) = .int .i64 (get L k 0) := get_mv _ _ _ _
attribute [go_sem] lookup_held update_held delete_held lookup_ints update_ints get_mv get_ints field_held0 field_held1

/-- Leases: which traces are held (rising), for which job and how long; the greatest job whose lease ran out. -/
structure LeaseM where
  ticks : Int
  held : List (Int × (Int × Int))
  over : Int → Int

def LeaseM.grant (m : LeaseM) (t j : Int) : LeaseM := { m with held := putS m.held t (j, m.ticks) }
def LeaseM.job (m : LeaseM) (t : Int) : Int := (get m.held t (0, 0)).1
def LeaseM.fin (m : LeaseM) (t : Int) : LeaseM := { m with held := del m.held t }

structure LeaseR (F : Nat → Prop) (w : World) (b : Nat) (m : LeaseM) : Prop where
  ex : ∃ hb ob Lh Lo, Blk w b 159 [.int .i64 m.ticks, .map (some hb), .map (some ob)] ∧ F b ∧ F hb ∧ F ob ∧ hb ≠ ob ∧
    w.im hb = some (mv heldV Lh) ∧ Lh.Perm m.held ∧ w.im ob = some (mv (Value.int .i64) Lo) ∧ ∀ k, get Lo k 0 = m.over k
  srt : Srt m.held
  bd : Bd F w

theorem LeaseR.fr {F S : Nat → Prop} {w w' : World} {b : Nat} {m : LeaseM} (h : LeaseR F w b m) (hf : Fr S w w') (hs : ∀ k, F k → ¬ S k) : LeaseR F w' b m := by
  obtain ⟨⟨hb, ob, Lh, Lo, hB, f1, f2, f3, hne, h1, h2, h3, h4⟩, hs', bd⟩ := h
  exact ⟨⟨hb, ob, Lh, Lo, hB.fr hf (hs _ f1), f1, f2, f3, hne, hf.im h1 (hs _ f2), h2, hf.im h3 (hs _ f3), h4⟩, hs', bd.fr hf⟩
theorem LeaseR.mono {F F' : Nat → Prop} {w : World} {b : Nat} {m : LeaseM} (h : LeaseR F w b m) (hf : ∀ k, F k → F' k) (bd : Bd F' w) : LeaseR F' w b m := by
  obtain ⟨⟨hb, ob, Lh, Lo, hB, f1, f2, f3, r⟩, hs', _⟩ := h
  exact ⟨⟨hb, ob, Lh, Lo, hB, hf _ f1, hf _ f2, hf _ f3, r⟩, hs', bd⟩

theorem lease_job (F : Nat → Prop) (b : Nat) (m : LeaseM) (t : Int) (w : World) (h : LeaseR F w b m) :
    Calls Tryz.prog 46 #[.pointer (some ⟨b,0,none⟩), .int .i64 t] w fun e w' => e = .returned (.int .i64 (m.job t)) ∧ w = w' := by
  obtain ⟨⟨hb, ob, Lh, Lo, hB, f1, f2, f3, hne, h1, h2, h3, h4⟩, hs, bd⟩ := h
  have hj : m.job t = (get Lh t (0,0)).1 := by rw [LeaseM.job, get_perm h2 hs.nodup]
  rw [hj]
  have c1 := hB.get (i := 1) rfl
  clear hj h2 h4 hs hB hne
  go_enter Tryz.func46, Tryz.ntmps46
  go_wp2
  go_ret
  exact ⟨rfl, rfl⟩

theorem lease_over (F : Nat → Prop) (b : Nat) (m : LeaseM) (t : Int) (w : World) (h : LeaseR F w b m) :
    Calls Tryz.prog 97 #[.pointer (some ⟨b,0,none⟩), .int .i64 t] w fun e w' => e = .returned (.int .i64 (m.over t)) ∧ w = w' := by
  obtain ⟨⟨hb, ob, Lh, Lo, hB, f1, f2, f3, hne, h1, h2, h3, h4⟩, hs, bd⟩ := h
  rw [← h4 t]
  have c1 := hB.get (i := 2) rfl
  clear h2 h4 hs hB hne
  go_enter Tryz.func97, Tryz.ntmps97
  go_wp2
  go_ret
  exact ⟨rfl, rfl⟩

theorem lease_end (F : Nat → Prop) (b : Nat) (m : LeaseM) (t : Int) (w : World) (h : LeaseR F w b m) :
    Calls Tryz.prog 102 #[.pointer (some ⟨b,0,none⟩), .int .i64 t] w fun e w' => e = .returned (.tuple #[]) ∧ LeaseR F w' b (m.fin t) ∧ Fr F w w' := by
  obtain ⟨⟨hb, ob, Lh, Lo, hB, f1, f2, f3, hne, h1, h2, h3, h4⟩, hs, bd⟩ := h
  have fin : LeaseR F (w.mdel hb t) b (m.fin t) := ⟨⟨hb, ob, del Lh t, Lo, hB.mdel _ _, f1, f2, f3, hne, by rw [im_mdel h1, del_mv], del_perm h2 t, by rw [im_mdel_ne (Ne.symm hne)]; exact h3, h4⟩, hs.del t, bd.fr ((Fr.refl F w).mdel (fun _ => f2) t)⟩
  have c1 := hB.get (i := 1) rfl
  clear h2 h4 hs hB hne
  go_enter Tryz.func102, Tryz.ntmps102
  go_wp2
  go_end0
  exact ⟨rfl, fin, (Fr.refl F w).mdel (fun _ => f2) _⟩

theorem lease_grant (F : Nat → Prop) (b : Nat) (m : LeaseM) (t j : Int) (w : World) (h : LeaseR F w b m) :
    Calls Tryz.prog 99 #[.pointer (some ⟨b,0,none⟩), .int .i64 t, .int .i64 j] w fun e w' => e = .returned (.tuple #[]) ∧ LeaseR F w' b (m.grant t j) ∧ Fr F w w' := by
  obtain ⟨⟨hb, ob, Lh, Lo, hB, f1, f2, f3, hne, h1, h2, h3, h4⟩, hs, bd⟩ := h
  have fin : LeaseR F (w.mput hb t (heldV (j, m.ticks))) b (m.grant t j) := ⟨⟨hb, ob, put Lh t (j, m.ticks), Lo, hB.mput _ _ _, f1, f2, f3, hne, by rw [im_mput h1, put_mv], put_perm h2 hs t _, by rw [im_mput_ne (Ne.symm hne)]; exact h3, h4⟩, hs.putS t _, bd.fr ((Fr.refl F w).mput (fun _ => f2) t (heldV (j, m.ticks)))⟩
  have c0 := hB.get (i := 0) rfl
  have c1 := hB.get (i := 1) rfl
  clear h2 h4 hs hB hne
  go_enter Tryz.func99, Tryz.ntmps99
  go_wp2
  go_region
  go_end0
  exact ⟨rfl, fin.fr (Fr.refl (fun _ => False) _).drew (fun _ _ h => h), ((Fr.refl F w).mput (fun _ => f2) _ _).drew⟩

end Go.Proofs.YtkjggglmemafgaaGreat
