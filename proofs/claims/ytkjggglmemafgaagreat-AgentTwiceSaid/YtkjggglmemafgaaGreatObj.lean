import Derived.Test.YtkjggglmemafgaaGreatPNew
import Derived.Test.YtkjggglmemafgaaGreatLeaseB
namespace Go.Proofs.YtkjggglmemafgaaGreat
open Go Go.RowKit
set_option linter.unusedVariables false
set_option linter.unusedSimpArgs false
set_option maxRecDepth 20000

/-! ### the contracts below the agent, side by side -/
def leaseA (b : Nat) (m : LeaseM) : Asn := ⟨fun F w => LeaseR F w b m, fun h => h.bd, fun h hf hs => h.fr hf hs⟩
def keepA (b : Nat) (m : KeepM) : Asn := ⟨fun F w => KeepA F w b m, fun h => h.bd, fun h hf hs => h.fr hf hs⟩
def buckA (b : Nat) (m : BuckM) : Asn := blkA b 161 (BuckV m)
def intsA (v : Value) (l : List Int) : Asn := slA 3 1 v l.length (l.map (Value.int .i64))
def spansA (v : Value) (l : List Sp) : Asn := slA 37 3 v l.length (spCs l)
section
variable {w0 w : World} {R : List Asn} {b : Nat}

def IntsS (w0 : World) (R : List Asn) (l : List Int) (e : Ending) (w' : World) : Prop := ∃ v, e = .returned v ∧ St w0 (intsA v l :: R) w' ∧ (v = .slice none 0 0 ↔ l = [])
def SpansS (w0 : World) (R : List Asn) (l : List Sp) (e : Ending) (w' : World) : Prop := ∃ v, e = .returned v ∧ St w0 (spansA v l :: R) w' ∧ (v = .slice none 0 0 ↔ l = [])
theorem IntsS.of {l : List Int} {e : Ending} {w' : World} (h : St w0 R w) (hN : NewInts w l e w') : IntsS w0 R l e w' := by
  obtain ⟨v, rfl, hS, hg, hn, hF⟩ := hN
  exact ⟨v, rfl, h.new hF ⟨hS, fun g hh => ⟨hg g hh, hS.lt hh⟩, fun k hk => hk.2⟩, hn⟩
theorem SpansS.of {l : List Sp} {e : Ending} {w' : World} (h : St w0 R w) (hN : NewSpans w l e w') : SpansS w0 R l e w' := by
  obtain ⟨v, rfl, hS, hg, hn, hF⟩ := hN
  exact ⟨v, rfl, h.new hF ⟨hS, fun g hh => ⟨hg g hh, hS.lt hh⟩, fun k hk => hk.2⟩, hn⟩

theorem leaseS_job {m : LeaseM} (h : St w0 (leaseA b m :: R) w) (t : Int) : Calls Tryz.prog 46 #[.pointer (some ⟨b,0,none⟩), .int .i64 t] w fun e w' => e = .returned (.int .i64 (m.job t)) ∧ w = w' := by
  obtain ⟨F, hF⟩ := h.hd; exact lease_job F b m t w hF
theorem leaseS_over {m : LeaseM} (h : St w0 (leaseA b m :: R) w) (t : Int) : Calls Tryz.prog 97 #[.pointer (some ⟨b,0,none⟩), .int .i64 t] w fun e w' => e = .returned (.int .i64 (m.over t)) ∧ w = w' := by
  obtain ⟨F, hF⟩ := h.hd; exact lease_over F b m t w hF
def VoidS (w0 : World) (l : List Asn) (e : Ending) (w' : World) : Prop := e = .returned (.tuple #[]) ∧ St w0 l w'
theorem leaseS_end {m : LeaseM} (h : St w0 (leaseA b m :: R) w) (t : Int) : Calls Tryz.prog 102 #[.pointer (some ⟨b,0,none⟩), .int .i64 t] w (VoidS w0 (leaseA b (m.fin t) :: R)) := by
  obtain ⟨F, hF, next⟩ := h.step
  refine (lease_end F b m t w hF).mono ?_
  rintro e w' ⟨rfl, hX, hf⟩
  exact ⟨rfl, next (B := leaseA b (m.fin t)) (hX.mono (fun _ => gr_in) (hF.bd.gr hf)) hf⟩
theorem leaseS_grant {m : LeaseM} (h : St w0 (leaseA b m :: R) w) (t j : Int) : Calls Tryz.prog 99 #[.pointer (some ⟨b,0,none⟩), .int .i64 t, .int .i64 j] w (VoidS w0 (leaseA b (m.grant t j) :: R)) := by
  obtain ⟨F, hF, next⟩ := h.step
  refine (lease_grant F b m t j w hF).mono ?_
  rintro e w' ⟨rfl, hX, hf⟩
  exact ⟨rfl, next (B := leaseA b (m.grant t j)) (hX.mono (fun _ => gr_in) (hF.bd.gr hf)) hf⟩
theorem leaseS_tick {m : LeaseM} (h : St w0 (leaseA b m :: R) w) (hok : LeaseOk m) : Calls Tryz.prog 58 #[.pointer (some ⟨b,0,none⟩)] w (IntsS w0 (leaseA b m.tick :: R) m.gone) := by
  obtain ⟨F, hF, next⟩ := h.step
  refine (lease_tick F b m w hF hok).mono ?_
  rintro e w' ⟨v, rfl, hS, hg, hn, hX, hf⟩
  have bd' : Bd (gr F w w') w' := hF.bd.gr hf
  have hlt : ∀ g, v.ownBlock = some g → w.heap.size ≤ g ∧ g < w'.heap.size := fun g hh => ⟨hg g hh, hS.lt hh⟩
  have h2 : St w0 (sep [intsA v m.gone, leaseA b m.tick] :: R) w' := by
    refine next (B := sep [intsA v m.gone, leaseA b m.tick]) ?_ hf
    have bF := hX.bd
    have bF0 := hF.bd
    exact ⟨fun k => w.heap.size ≤ k ∧ k < w'.heap.size, F, fun k hk e => by have := bF0 k e; omega, fun k => ⟨fun hk => hk.elim .inr .inl, fun hk => hk.elim .inr .inl⟩, ⟨hS, hlt, fun k hk => hk.2⟩,
      F, fun _ => False, fun _ _ e => e, fun _ => (or_false _).symm ▸ Iff.rfl, hX, fun _ e => e.elim⟩
  exact ⟨v, rfl, h2.flat, hn⟩

theorem keepS_lost {m : KeepM} (h : St w0 (keepA b m :: R) w) (t : Int) : Calls Tryz.prog 55 #[.pointer (some ⟨b,0,none⟩), .int .i64 t] w fun e w' => e = .returned (.bool (m.lost t)) ∧ w = w' := by
  obtain ⟨F, hF⟩ := h.hd; exact keep_lost F b m t w hF
theorem keepS_pin {m : KeepM} (h : St w0 (keepA b m :: R) w) (t : Int) : Calls Tryz.prog 100 #[.pointer (some ⟨b,0,none⟩), .int .i64 t] w (VoidS w0 (keepA b { m with pins := setT m.pins t true } :: R)) := by
  obtain ⟨F, hF, next⟩ := h.step
  refine (keep_pin F b m t w hF).mono ?_
  rintro e w' ⟨rfl, hX, hf⟩
  exact ⟨rfl, next (B := keepA b _) (KeepA.mono hX (fun _ => gr_in) (KeepA.bd hF |>.gr hf)) hf⟩
theorem keepS_unpin {m : KeepM} (h : St w0 (keepA b m :: R) w) (t : Int) : Calls Tryz.prog 59 #[.pointer (some ⟨b,0,none⟩), .int .i64 t] w (VoidS w0 (keepA b { m with pins := setT m.pins t false } :: R)) := by
  obtain ⟨F, hF, next⟩ := h.step
  refine (keep_unpin F b m t w hF).mono ?_
  rintro e w' ⟨rfl, hX, hf⟩
  exact ⟨rfl, next (B := keepA b _) (KeepA.mono hX (fun _ => gr_in) (KeepA.bd hF |>.gr hf)) hf⟩
theorem keepS_forget {m : KeepM} (h : St w0 (keepA b m :: R) w) (t : Int) : Calls Tryz.prog 103 #[.pointer (some ⟨b,0,none⟩), .int .i64 t] w (VoidS w0 (keepA b (m.forget t) :: R)) := by
  obtain ⟨F, hF, next⟩ := h.step
  refine (keep_forget F b m t w hF).mono ?_
  rintro e w' ⟨rfl, hX, hf⟩
  exact ⟨rfl, next (B := keepA b _) hX hf⟩
theorem keepS_spans {m : KeepM} (h : St w0 (keepA b m :: R) w) (t : Int) : Calls Tryz.prog 53 #[.pointer (some ⟨b,0,none⟩), .int .i64 t] w (SpansS w0 (keepA b m :: R) (get m.P.m t [])) := by
  obtain ⟨F, hF⟩ := h.hd
  exact (keep_spans F b m t w hF).mono fun e w' hN => SpansS.of h hN
def IntS (w0 : World) (l : List Asn) (n : Int) (e : Ending) (w' : World) : Prop := e = .returned (.int .i64 n) ∧ St w0 l w'
theorem keepS_used {m : KeepM} (h : St w0 (keepA b m :: R) w) : Calls Tryz.prog 60 #[.pointer (some ⟨b,0,none⟩)] w (IntS w0 (keepA b m :: R) m.P.used) := by
  obtain ⟨F, hF⟩ := h.hd
  exact (keep_used F b m w hF).mono fun e w' ⟨h1, h2⟩ => ⟨h1, h.fr h2⟩
theorem keepS_evicted {m : KeepM} (h : St w0 (keepA b m :: R) w) (hgl : (m.gone.length : Int) ≤ 100000) : Calls Tryz.prog 83 #[.pointer (some ⟨b,0,none⟩)] w (IntsS w0 (keepA b m :: R) m.gone) := by
  obtain ⟨F, hF⟩ := h.hd
  exact (keep_evicted F b m w hF hgl).mono fun e w' hN => IntsS.of h hN
def WriteS (w0 : World) (l : List Asn) (s : Sp) (n : Int) (e : Ending) (w' : World) : Prop := e = .returned (errV s n) ∧ St w0 l w'
theorem keepS_write {m : KeepM} (h : St w0 (keepA b m :: R) w) (t : Int) (s : ByteArray) (hgl : m.gone.length + m.P.m.length ≤ 90000) :
    Calls Tryz.prog 44 #[.pointer (some ⟨b,0,none⟩), .int .i64 t, .string s] w (WriteS w0 (keepA b (m.write t s).2.2 :: R) (m.write t s).1 (m.write t s).2.1) := by
  obtain ⟨F, hF, next⟩ := h.step
  refine (keep_write F w b m hF t s hgl).mono ?_
  rintro e w' ⟨h1, hX, hf⟩
  exact ⟨h1, next (B := keepA b _) hX hf⟩
def BoolS (w0 : World) (l : List Asn) (x : Bool) (e : Ending) (w' : World) : Prop := e = .returned (.bool x) ∧ St w0 l w'
theorem buckS_take {m : BuckM} (h : St w0 (buckA b m :: R) w) (hok : BuckOk m) : Calls Tryz.prog 56 #[.pointer (some ⟨b,0,none⟩)] w (BoolS w0 (buckA b m.take.2 :: R) m.take.1) := by
  obtain ⟨F, ⟨hB, hb, hbd⟩, next⟩ := h.step
  refine (buck_take w b m hB hok).mono ?_
  rintro e w' ⟨h1, hX, hf⟩
  have hf' : Fr F w w' := hf.mono (fun k _ e => e ▸ hb)
  exact ⟨h1, next (B := buckA b _) ⟨hX, gr_in hb, hbd.gr hf'⟩ hf'⟩
theorem buckS_tick {m : BuckM} (h : St w0 (buckA b m :: R) w) (hok : BuckOk m) : Calls Tryz.prog 57 #[.pointer (some ⟨b,0,none⟩)] w (VoidS w0 (buckA b m.tick :: R)) := by
  obtain ⟨F, ⟨hB, hb, hbd⟩, next⟩ := h.step
  refine (buck_tick w b m hB hok).mono ?_
  rintro e w' ⟨h1, hX, hf⟩
  have hf' : Fr F w w' := hf.mono (fun k _ e => e ▸ hb)
  exact ⟨h1, next (B := buckA b _) ⟨hX, gr_in hb, hbd.gr hf'⟩ hf'⟩
/-- .. and made anew -/
def NewS (w0 : World) (R : List Asn) (A : Nat → Asn) (ok : Prop) (e : Ending) (w' : World) : Prop :=
  (ok ∧ ∃ b, e = .returned (.tuple #[.pointer (some ⟨b, 0, none⟩), .int .i64 0]) ∧ St w0 (A b :: R) w') ∨ (¬ ok ∧ e = .returned (.tuple #[.pointer none, .int .i64 1]) ∧ St w0 R w')
theorem leaseS_new (h : St w0 R w) (n : Int) : Calls Tryz.prog 42 #[.int .i64 n] w (NewS w0 R (fun b => leaseA b ⟨n, [], fun _ => 0⟩) (1 ≤ n ∧ n ≤ 1000)) := by
  refine (lease_new w n).mono fun e w' hN => ?_
  unfold LeaseNew at hN
  split at hN
  · next hc =>
    obtain ⟨b, rfl, hb, hL, hF⟩ := hN
    exact .inl ⟨hc, b, rfl, h.new (B := leaseA b _) hF hL⟩
  · next hc => exact .inr ⟨hc, hN.1, hN.2 ▸ h⟩
theorem buckS_new (h : St w0 R w) (n r : Int) : Calls Tryz.prog 43 #[.int .i64 n, .int .i64 r] w (NewS w0 R (fun b => buckA b ⟨n, r, n, 0⟩) (0 ≤ n ∧ 0 ≤ r ∧ n ≤ 1000 ∧ r ≤ 1000)) := by
  refine (buck_new w n r).mono fun e w' hN => ?_
  unfold BuckNew at hN
  split at hN
  · next hc => exact .inl ⟨hc, _, hN.1, hN.2 ▸ h.alloc (BuckV ⟨n, r, n, 0⟩) 161 rfl⟩
  · next hc => exact .inr ⟨hc, hN.1, hN.2 ▸ h⟩
/-- what was made over a fresh start, over another one -/
theorem St.base {w' : World} {A : Asn} (h : St w0 R w) (hN : St w [A, oldA w] w') : St w0 (A :: R) w' := by
  obtain ⟨F, hF⟩ := h.foot
  have hb := (sep R).bd hF
  have hf := (hN.at 1).old
  obtain ⟨G, F1, F2, d1, e1, hA, F3, F4, d2, e2, ⟨hO, -, -⟩, -⟩ := hN.foot
  exact ⟨h.ext.trans hf (fun _ _ h => h.elim), fun k => F1 k ∨ F k, F1, F, fun k hk e => d1 k hk ((e2 k).2 (.inl ((hO k).2 (hb k e)))), fun _ => Iff.rfl, hA, (sep R).fr hF hf (fun _ _ h => h)⟩
theorem poolS_new (h : St w0 R w) (n : Int) : Calls Tryz.prog 84 #[.int .i64 n] w (NewS w0 R (fun b => poolA b ⟨n.toNat, []⟩) (1 ≤ n ∧ n ≤ 16)) := by
  refine (pool_new w n).mono fun e w' hN => ?_
  unfold PoolNew at hN
  split at hN
  · next hc => exact .inl ⟨hc, _, hN.1, h.base hN.2⟩
  · next hc => exact .inr ⟨hc, hN.1, hN.2 ▸ h⟩
end
theorem keep_pack {w0 w : World} {R : List Asn} {b p pb lb : Nat} {n : Nat} {seed : Int} (h : St w0 ([blkA b 156 [.pointer (some ⟨p, 0, none⟩), .int .u64 seed, .map (some pb), .map (some lb), .slice none 0 0], mapA pb [], mapA lb [], poolA p ⟨n, []⟩] ++ R) w) :
    St w0 (keepA b ⟨⟨n, []⟩, seed, fun _ => false, fun _ => false, []⟩ :: R) w := by
  refine (h.fold).head fun F hF => ?_
  have bd := Asn.bd _ hF
  obtain ⟨F1, F2, d1, e1, ⟨hB, hBf, b1⟩, F3, F4, d2, e2, ⟨hP, hPf, b2⟩, F5, F6, d3, e3, ⟨hL, hLf, b3⟩, F7, F8, d4, e4, hM, -⟩ := hF
  refine ⟨F7, p, pb, lb, .slice none 0 0, [], [], hB, hM, hP, hL, fun _ => rfl, fun _ => rfl, Sl.nil _ _ _, by simp, (e1 _).2 (.inl hBf), (e1 _).2 (.inr ((e2 _).2 (.inl hPf))), (e1 _).2 (.inr ((e2 _).2 (.inr ((e3 _).2 (.inl hLf))))), (fun g hg => by cases hg), fun k hk => (e1 k).2 (.inr ((e2 k).2 (.inr ((e3 k).2 (.inr ((e4 k).2 (.inl hk))))))), ⟨fun e => d1 _ hBf ((e2 _).2 (.inr ((e3 _).2 (.inr ((e4 _).2 (.inl e)))))), fun e => d2 _ hPf ((e3 _).2 (.inr ((e4 _).2 (.inl e)))), fun e => d3 _ hLf ((e4 _).2 (.inl e)), fun g hg => by cases hg⟩, ?_, bd⟩
  rintro rfl
  exact d2 _ hPf ((e3 _).2 (.inl hLf))
theorem keepS_new {w0 w : World} {R : List Asn} (h : St w0 R w) (n seed : Int) : Calls Tryz.prog 41 #[.int .i64 n, .int .u64 seed] w (NewS w0 R (fun b => keepA b ⟨⟨n.toNat, []⟩, seed, fun _ => false, fun _ => false, []⟩) (1 ≤ n ∧ n ≤ 16)) := by
  go_enter Tryz.func41, Tryz.ntmps41
  go_wp2_with fail
  refine (poolS_new h n).mono ?_
  rintro e w1 (⟨hc, p, rfl, h1⟩ | ⟨hc, rfl, h1⟩)
  · go_wp2
    have h2 := ((h1.allocMap rfl).allocMap (B := w1.heap.size + 1)).alloc [.pointer (some ⟨p, 0, none⟩), .int .u64 seed, .map (some w1.heap.size), .map (some (w1.heap.size + 1)), .slice none 0 0] 156 (B := w1.heap.size + 1 + 1)
    go_ret2
    exact .inl ⟨hc, _, rfl, keep_pack (h2.at 2 |>.at 1)⟩
  · go_wp2
    go_ret2
    exact .inr ⟨hc, rfl, h1⟩
end Go.Proofs.YtkjggglmemafgaaGreat
