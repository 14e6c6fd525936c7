import Derived.Test.YtkjggglmemafgaaGreatSep
import Derived.Test.YtkjggglmemafgaaGreatPoolC
namespace Go.Proofs.YtkjggglmemafgaaGreat
open Go Go.RowKit

/-! ### messages: what they are -/
structure PinM where
  agent : Int
  trace : Int
  job : Int
  count : Int
  crumbs : List Int
  lost : Bool
  deriving DecidableEq
inductive MsgM where
  | trigger (a t c : Int)
  | pin (t j : Int)
  | pinned (p : PinM)
  | gone (a t j : Int)
  | collect (t j : Int)
  | chunk (a t j i n : Int) (s : List Sp)
  | manifest (t j c : Int) (ps : List PinM)
  | stored (t j : Int)
  | unpin (t j : Int)
  | unpinned (a t j : Int)
  | none
  deriving DecidableEq

/-- a slice that can be read; its cells lie in F -/
structure Rs (F : Nat → Prop) (w : World) (v : Value) (n : Nat) (xs : List Value) : Prop where
  shape : ∃ a c, v = .slice a n c ∧ n ≤ c ∧ (a = none → c = 0)
  form : 0 < xs.length → ∃ g off c, v = .slice (some ⟨g, off, none⟩) n c ∧ F g ∧ n ≤ c
  cells : ∀ {g off l c}, v = .slice (some ⟨g, off, none⟩) l c → ∀ (j : Nat) (u : Value), xs[j]? = some u → w.cell? ⟨g, off + j, none⟩ = some u
theorem Rs.fr {F S : Nat → Prop} {w w' : World} {v : Value} {n : Nat} {xs : List Value} (h : Rs F w v n xs) (hf : Fr S w w') (hs : ∀ k, F k → ¬ S k) : Rs F w' v n xs := by
  refine ⟨h.shape, h.form, fun {g off l c} hv j u hj => ?_⟩
  obtain ⟨g', off', c', hv', hF, -⟩ := h.form (by have := (List.getElem?_eq_some_iff.1 hj).1; omega)
  rw [hv'] at hv; cases hv
  exact hf.cell_some (h.cells hv' j u hj) (hs _ hF)
theorem Rs.mono {F F' : Nat → Prop} {w : World} {v : Value} {n : Nat} {xs : List Value} (h : Rs F w v n xs) (hs : ∀ k, F k → F' k) : Rs F' w v n xs :=
  ⟨h.shape, fun hn => by obtain ⟨g, off, c, h1, h2, h3⟩ := h.form hn; exact ⟨g, off, c, h1, hs _ h2, h3⟩, h.cells⟩
theorem Rs.nil (F : Nat → Prop) (w : World) : Rs F w (.slice none 0 0) 0 [] := ⟨⟨_, _, rfl, Nat.le_refl _, fun _ => rfl⟩, fun h => by simp at h, fun hv => by cases hv⟩
theorem Rs.of_sl {F : Nat → Prop} {w : World} {e : TypeId} {sz n : Nat} {v : Value} {xs : List Value} (h : Sl w e sz v n xs) (hF : ∀ g, v.ownBlock = some g → F g) : Rs F w v n xs := by
  refine ⟨?_, fun hn => ?_, fun hv j u hj => h.cells hv j u hj⟩
  · rcases h.shape with ⟨hv, h0⟩ | ⟨g, off, cap, hv, _, hc, _⟩
    · rw [h0]; exact ⟨_, _, hv, Nat.le_refl _, fun _ => rfl⟩
    · exact ⟨_, _, hv, hc, fun h => by cases h⟩
  · obtain ⟨g, off, cap, hv, _, hc, _⟩ := h.form (Nat.pos_of_ne_zero fun e => by have := h.1; rw [e] at this; omega)
    exact ⟨g, off, cap, hv, hF g (by rw [hv]; rfl), hc⟩

def PinV (p : PinM) (cv : Value) : List Value := [.int .i64 p.agent, .int .i64 p.trace, .int .i64 p.job, .int .i64 p.count, cv, .bool p.lost]
def IntsR (F : Nat → Prop) (w : World) (v : Value) (l : List Int) : Prop := Rs F w v l.length (l.map (Value.int .i64))
def SpansR (F : Nat → Prop) (w : World) (v : Value) (l : List Sp) : Prop := Rs F w v l.length (spCs l)
def PinsR (F : Nat → Prop) (w : World) (v : Value) (ps : List PinM) : Prop :=
  ∃ cvs : List Value, cvs.length = ps.length ∧ Rs F w v ps.length ((ps.zip cvs).flatMap fun x => PinV x.1 x.2) ∧ ∀ (i : Nat) p cv, ps[i]? = some p → cvs[i]? = some cv → IntsR F w cv p.crumbs
/-- v is the message m, in w; what it holds lies in F -/
def MsgR (F : Nat → Prop) (w : World) (v : Value) : MsgM → Prop
  | .trigger a t c => v = .iface 58 (.agg #[.int .i64 a, .int .i64 t, .int .i64 c])
  | .pin t j => v = .iface 48 (.agg #[.int .i64 t, .int .i64 j])
  | .pinned p => ∃ cv, v = .iface 136 (.agg #[.int .i64 p.agent, .int .i64 p.trace, .int .i64 p.job, .int .i64 p.count, cv, .bool p.lost]) ∧ IntsR F w cv p.crumbs
  | .gone a t j => v = .iface 139 (.agg #[.int .i64 a, .int .i64 t, .int .i64 j])
  | .collect t j => v = .iface 99 (.agg #[.int .i64 t, .int .i64 j])
  | .chunk a t j i n s => ∃ sv, v = .iface 141 (.agg #[.int .i64 a, .int .i64 t, .int .i64 j, .int .i64 i, .int .i64 n, sv]) ∧ SpansR F w sv s
  | .manifest t j c ps => ∃ pv, v = .iface 144 (.agg #[.int .i64 t, .int .i64 j, .int .i64 c, pv]) ∧ PinsR F w pv ps
  | .stored t j => v = .iface 145 (.agg #[.int .i64 t, .int .i64 j])
  | .unpin t j => v = .iface 49 (.agg #[.int .i64 t, .int .i64 j])
  | .unpinned a t j => v = .iface 146 (.agg #[.int .i64 a, .int .i64 t, .int .i64 j])
  | .none => v = .nilIface
theorem PinsR.fr {F S : Nat → Prop} {w w' : World} {v : Value} {ps : List PinM} (h : PinsR F w v ps) (hf : Fr S w w') (hs : ∀ k, F k → ¬ S k) : PinsR F w' v ps := by
  obtain ⟨cvs, h1, h2, h3⟩ := h
  exact ⟨cvs, h1, h2.fr hf hs, fun i p cv hp hc => Rs.fr (h3 i p cv hp hc) hf hs⟩
theorem PinsR.mono {F F' : Nat → Prop} {w : World} {v : Value} {ps : List PinM} (h : PinsR F w v ps) (hs : ∀ k, F k → F' k) : PinsR F' w v ps := by
  obtain ⟨cvs, h1, h2, h3⟩ := h
  exact ⟨cvs, h1, h2.mono hs, fun i p cv hp hc => Rs.mono (h3 i p cv hp hc) hs⟩
theorem MsgR.fr {F S : Nat → Prop} {w w' : World} {v : Value} {m : MsgM} (h : MsgR F w v m) (hf : Fr S w w') (hs : ∀ k, F k → ¬ S k) : MsgR F w' v m := by
  cases m with
  | pinned p => obtain ⟨cv, h1, h2⟩ := h; exact ⟨cv, h1, Rs.fr h2 hf hs⟩
  | chunk a t j i n s => obtain ⟨cv, h1, h2⟩ := h; exact ⟨cv, h1, Rs.fr h2 hf hs⟩
  | manifest t j c ps => obtain ⟨cv, h1, h2⟩ := h; exact ⟨cv, h1, h2.fr hf hs⟩
  | _ => exact h
theorem MsgR.mono {F F' : Nat → Prop} {w : World} {v : Value} {m : MsgM} (h : MsgR F w v m) (hs : ∀ k, F k → F' k) : MsgR F' w v m := by
  cases m with
  | pinned p => obtain ⟨cv, h1, h2⟩ := h; exact ⟨cv, h1, Rs.mono h2 hs⟩
  | chunk a t j i n s => obtain ⟨cv, h1, h2⟩ := h; exact ⟨cv, h1, Rs.mono h2 hs⟩
  | manifest t j c ps => obtain ⟨cv, h1, h2⟩ := h; exact ⟨cv, h1, h2.mono hs⟩
  | _ => exact h
def msgA (v : Value) (m : MsgM) : Asn := ⟨fun F w => MsgR F w v m ∧ Bd F w, fun h => h.2, fun h hf hs => ⟨h.1.fr hf hs, h.2.fr hf⟩⟩

def within (n lo hi : Int) : Bool := decide (lo ≤ n) && decide (n ≤ hi)
def risingS : Int → List Int → Bool
  | _, [] => true
  | last, a :: l => decide (last < a) && decide (a < 4) && risingS a l
def agentsS (l : List Int) : Bool := risingS (-1) l
def MsgM.of : MsgM → Int × Int × Bool
  | .trigger _ t _ => (t, 0, true)
  | .pin t j | .collect t j | .stored t j | .unpin t j => (t, j, true)
  | .pinned p => (p.trace, p.job, true)
  | .gone _ t j | .unpinned _ t j => (t, j, true)
  | .chunk _ t j _ _ _ => (t, j, true)
  | .manifest t j _ _ => (t, j, true)
  | .none => (0, 0, false)
def MsgM.sender : MsgM → Int × Bool
  | .trigger a _ _ | .gone a _ _ | .unpinned a _ _ => (a, true)
  | .pinned p => (p.agent, true)
  | .chunk a _ _ _ _ _ => (a, true)
  | _ => (0, false)
def PinM.right (p : PinM) : Bool := within p.trace 1 65535 && within p.agent 0 3 && within p.job 1 1073741824 && within p.count 0 1000 && agentsS p.crumbs
def partsS (t j : Int) (ps : List PinM) : Bool := ps.all (fun p => p.right && decide (p.trace = t) && decide (p.job = j)) && !ps.isEmpty && agentsS (ps.map (·.agent))
def MsgM.right : MsgM → Bool
  | .trigger a t c => within t 1 65535 && within a 0 3 && within c 0 3
  | .pin t j | .collect t j | .stored t j | .unpin t j => within t 1 65535 && within j 1 1073741824
  | .pinned p => p.right
  | .gone a t j | .unpinned a t j => within t 1 65535 && within a 0 3 && within j 1 1073741824
  | .chunk a t j i n s => within t 1 65535 && within a 0 3 && within j 1 1073741824 && within n 1 500 && within i 0 (n - 1) && decide (s.length ≤ 2) && s.all (fun s => spOk s && decide (s.tr = t))
  | .manifest t j c ps => within t 1 65535 && within j 1 1073741824 && within c 0 3 && partsS t j ps
  | .none => false
end Go.Proofs.YtkjggglmemafgaaGreat
