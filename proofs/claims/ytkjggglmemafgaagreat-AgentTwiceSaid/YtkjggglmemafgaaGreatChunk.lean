import Derived.RangeFuncNested
import Derived.RangeFuncBound
import Derived.RangeFuncCalls
import Derived.RangeFuncLeaves
import Derived.Shelf.Abstract
import Derived.Shelf.RegionOpen
import Derived.OwnWalkIn
import Derived.TacticsInMore
import Derived.LoopNIn
import Derived.LoopIn
import Derived.Test.YtkjggglmemafgaaGreatEvict
import Derived.Test.YtkjggglmemafgaaGreatMsgM
namespace Go.Proofs.YtkjggglmemafgaaGreat
open Go Go.RowKit Go.Shelf
set_option linter.unusedVariables false
set_option linter.unusedSimpArgs false
set_option maxRecDepth 20000
attribute [local go_sem] Oper.semAt_some

/-! ### span.Chunks -/
theorem eq_nil_spans (W : World) (a : Option Addr) (n c : Nat) : (binOp .eql 51 (.slice a n c) (.slice none 0 0)).run Tryz.prog W = .ok (.bool a.isNone) W := Lib.run_eql_slice_nil W _ 37 a n c 0 0 (by kernel_rfl)
attribute [go_sem] eq_nil_spans
theorem clone_spans (F : Nat → Prop) (w : World) (v : Value) (l : List Sp) (hS : SpansR F w v l) (hn : v = .slice none 0 0 ↔ l = []) (hl : (l.length : Int) ≤ 100000) :
    Calls Tryz.prog 131 #[v] w (NewSpans w l) := by
  cases l with
  | nil =>
    have hv := hn.2 rfl
    subst hv
    have fin : NewSpans w [] (.returned (.slice none 0 0)) w := ⟨_, rfl, Sl.nil _ _ _, by simp [Value.ownBlock], by simp, Fr.refl _ _⟩
    clear hn hS hl
    go_enter Tryz.func131, Tryz.ntmps131
    go_wp2
    go_ret
    exact fin
  | cons x xs =>
    obtain ⟨g, off, cap, rfl, hg, hcap⟩ := Rs.form hS (by rw [spCs_length]; simp)
    rw [List.length_cons] at hcap hl ⊢
    have hl' : (xs.length : Int) ≤ 100000 := by omega
    have hl0 : (0 : Int) ≤ (xs.length : Int) := by omega
    have HR : Hid (Rd (w.alloc (.cells #[] 37)) (.slice (some ⟨g, off, none⟩) (xs.length + 1) cap) (xs.length + 1) (spCs (x :: xs))) := .inr ⟨_, _, rfl, fun j u hj => by rw [add_lit]; exact ((Fr.refl (fun _ => False) w).alloc (.cells #[] 37)).cell_some (Rs.cells hS rfl j u hj) (fun h => h)⟩
    clear hn hS hl
    go_enter Tryz.func131, Tryz.ntmps131
    go_wp2_with (at_builtin; refine wpList_append_sl _ rfl _ _ _ rfl el_span (v := .slice (some ⟨w.heap.size, 0, none⟩) 0 0) rfl (Sl.empty _ _ _) rfl (by exact HR.out) (by rw [spCs_length]; simp) (spCs_one _) (by omega) (by omega) ?_; intro v' w2 hs2 hg2 hb2 hn2)
    have H : Hid (NewSpans w (x :: xs) (.returned v') w2) := by
      refine ⟨_, rfl, ?_, ?_, ?_, ((Fr.refl _ w).alloc _).grown hg2 (fun k hk e => by simp [Value.ownBlock] at e; omega)⟩
      · simpa using hs2
      · intro q hq
        rcases hb2 with e | e
        · rw [e] at hq; simp [Value.ownBlock] at hq; omega
        · rw [e] at hq; simp at hq; omega
      · rw [hn2]; simp
    clear hs2 hg2 hb2 hn2
    go_wp2
    go_ret
    exact H.out

/-- how many the k-th chunk of n has; its value (as the walk spells it) -/
def chN (n k : Nat) : Nat := min 2 (n - 2 * k)
def chV (b off n k : Nat) : Value := .slice (some ⟨b, off + 2 * k * 3, none⟩) ((2 * (k : Int) + min 2 ((n - 2 * k : Nat) : Int)).toNat - 2 * k) ((2 * (k : Int) + min 2 ((n - 2 * k : Nat) : Int)).toNat - 2 * k)
theorem chV_eq (b off n k : Nat) : chV b off n k = .slice (some ⟨b, off + 2 * k * 3, none⟩) (chN n k) (chN n k) := by
  have : (2 * (k : Int) + min 2 ((n - 2 * k : Nat) : Int)).toNat - 2 * k = chN n k := by unfold chN; omega
  rw [chV, this]
def upto (N k : Nat) : List (Fin N) := (List.finRange N).take k
theorem upto_succ {N k : Nat} (h : k < N) : upto N (k + 1) = upto N k ++ [⟨k, h⟩] := by
  unfold upto; rw [List.take_add_one]; simp [h]
theorem upto_len {N k : Nat} (h : k ≤ N) : (upto N k).length = k := by simp [upto]; omega
theorem upto_get {N i : Nat} (k : Nat) {x : Fin N} (h : (upto N k)[i]? = some x) : x.1 = i := by
  unfold upto at h; rw [List.getElem?_take] at h
  split at h
  · rw [List.getElem?_eq_some_iff] at h; obtain ⟨hi, rfl⟩ := h; simp
  · cases h
def chW (v : Value) (n k : Nat) : Value := match v with | .slice (some a) _ _ => chV a.block a.off n k | v => v
/-- what a round keeps: the two boxes -/
def KpC (Bs : Nat) (A B : World) : Prop := B.cell? ⟨Bs, 0, none⟩ = A.cell? ⟨Bs, 0, none⟩ ∧ B.cell? ⟨Bs + 1, 0, none⟩ = A.cell? ⟨Bs + 1, 0, none⟩

set_option maxHeartbeats 2000000 in
theorem chunk1_in (n B0 : Nat) (hn : 1 ≤ n) (l Bs b off len cap : Nat) (hcap : len ≤ cap) (hlen : (len : Int) ≤ 1000000) (J Jx : List (Fin ((len + 1) / 2)) → World → Prop) (hJ : AbidesFrom B0 J)
    (hY : ∀ pre x W, J pre W → pre.length < (len + 1) / 2 → YieldAt Fence.wide (n - 1) Tryz.prog l #[chV b off len x.1] W fun e W' =>
      (e = .returned (.bool true) ∧ J (pre ++ [x]) W' ∧ KpC Bs W W') ∨ (e = .returned (.bool false) ∧ Jx (pre ++ [x]) W'))
    (W : World) (hBs : W.cell? ⟨Bs, 0, none⟩ = some (.slice (some ⟨b, off, none⟩) len cap)) (hBn : W.cell? ⟨Bs + 1, 0, none⟩ = some (.int .i64 2)) (h0 : J [] W) :
    CallsIn Fence.wide n Tryz.prog 143 #[.func (.yield l) #[] #[], .pointer (some ⟨Bs, 0, none⟩), .pointer (some ⟨Bs + 1, 0, none⟩)] W fun e W' => (∃ v, e = .returned v) ∧
      ((∃ ys, ys = upto ((len + 1) / 2) ((len + 1) / 2) ∧ J ys W') ∨ (∃ pre, Jx pre W')) := by
  refine callsIn_of_wp Tryz.func143 rfl trivial ?_ rfl
  simp only [Tryz.ntmps143, List.size_toArray, List.length_cons, List.length_nil, Nat.reduceAdd, Nat.reduceSub, Array.replicate_succ, Array.replicate_zero, List.push_toArray, List.append_toArray, List.nil_append, List.cons_append]
  gi_wp2
  gi_loopw [4] (fun i wr => ∃ k : Nat, k ≤ (len + 1) / 2 ∧ i = .int .i64 (2 * k : Nat) ∧ J (upto ((len + 1) / 2) k) wr ∧ KpC Bs W wr) (fun i _ => 2 * len + 2 - (intOf i).toNat)
  case atStart => exact ⟨0, Nat.zero_le _, rfl, h0, rfl, rfl⟩
  case round =>
    obtain ⟨k, hk, rfl, hJs, hk1, hk2⟩ := hrel
    have d1 := hk1.trans hBs
    have d2 := hk2.trans hBn
    by_cases hlt : 2 * k < len
    · gi_wp2
      gi_quiet (fail)
      have hkN : k < (len + 1) / 2 := by omega
      have hJq : J (upto ((len + 1) / 2) k) (wr.drewN nq) := hJ (upto ((len + 1) / 2) k) wr (wr.drewN nq) none hJs ⟨rfl, rfl, rfl, Nat.le_refl _, fun _ _ _ => rfl⟩ (fun r e => by cases e)
      obtain ⟨fn, tmps, assign, body, hy, hR⟩ := hY _ ⟨k, hkN⟩ (wr.drewN nq) hJq (by rw [upto_len (Nat.le_of_lt hkN)]; exact hkN)
      simp only [chV] at hy
      gi_wp2
      refine hR.mono ?_
      rintro e W3 (⟨rfl, hJ3, hk3, hk4⟩ | ⟨rfl, hJx3⟩)
      · have e1 := hk3.trans d1
        have e2 := hk4.trans d2
        gi_wp2
        go_roundw
        case rel => exact ⟨k + 1, by omega, by go_num, by rw [upto_succ hkN]; exact hJ3, e1.trans hBs.symm, e2.trans hBn.symm⟩
        case measure => simp [intOf]; omega
      · gi_wp2
        refine bodyPost_ret (results_none rfl _ _ _) rfl ?_
        exact ⟨⟨_, rfl⟩, .inr ⟨_, hJx3⟩⟩
    · have he : k = (len + 1) / 2 := by omega
      have hlt' : ¬ (2 * (k : Int)) < (len : Int) := by omega
      gi_wp2
      go_end0
      exact ⟨⟨_, rfl⟩, .inl (by rw [he] at hJs; exact hJs)⟩
theorem chunk1_nil_in (n : Nat) (l Bs cap : Nat) (a : Option Addr) (J : List (Fin 0) → World → Prop)
    (W : World) (hBs : W.cell? ⟨Bs, 0, none⟩ = some (.slice a 0 cap)) (h0 : J [] W) :
    CallsIn Fence.wide n Tryz.prog 143 #[.func (.yield l) #[] #[], .pointer (some ⟨Bs, 0, none⟩), .pointer (some ⟨Bs + 1, 0, none⟩)] W fun e W' => (∃ v, e = .returned v) ∧ J [] W' := by
  refine callsIn_of_wp Tryz.func143 rfl trivial ?_ rfl
  simp only [Tryz.ntmps143, List.size_toArray, List.length_cons, List.length_nil, Nat.reduceAdd, Nat.reduceSub, Array.replicate_succ, Array.replicate_zero, List.push_toArray, List.append_toArray, List.nil_append, List.cons_append]
  gi_wp2
  gi_loopw [4] (fun i wr => i = .int .i64 0 ∧ wr = W) (fun i _ => 0)
  case atStart => exact ⟨rfl, rfl⟩
  case round =>
    obtain ⟨rfl, rfl⟩ := hrel
    gi_wp2
    go_end0
    exact ⟨⟨_, rfl⟩, h0⟩
theorem chunk_in (n : Nat) (a : Option Addr) (len cap : Nat) (w : World) :
    CallsIn Fence.wide n Tryz.prog 130 #[.slice a len cap, .int .i64 2] w fun e w' =>
      e = .returned (.func (.func 143) #[] #[.pointer (some ⟨w.heap.size, 0, none⟩), .pointer (some ⟨w.heap.size + 1, 0, none⟩)]) ∧ w' = (w.alloc (.cells #[.slice a len cap] 51)).alloc (.cells #[.int .i64 2] 3) := by
  refine callsIn_of_wp Tryz.func130 rfl trivial ?_ rfl
  simp only [Tryz.ntmps130, List.size_toArray, List.length_cons, List.length_nil, Nat.reduceAdd, Nat.reduceSub, Array.replicate_succ, Array.replicate_zero, List.push_toArray, List.append_toArray, List.nil_append, List.cons_append]
  gi_wp2
  go_ret
  exact ⟨rfl, rfl⟩
theorem chunk_stops (n : Nat) (hn : 1 ≤ n) (Bs : Nat) (v : Value) (len : Nat) (xs : List Value) (F : Nat → Prop) (hlen : (len : Int) ≤ 1000000) (w0 w : World) (hR : Rs F w0 v len xs) (hx : xs.length = len * 3) (hB1 : Bs + 1 < w.heap.size) (hBs : w.cell? ⟨Bs, 0, none⟩ = some v) (hBn : w.cell? ⟨Bs + 1, 0, none⟩ = some (.int .i64 2)) :
    SeqStopsK Fence.wide n Tryz.prog 143 #[.pointer (some ⟨Bs, 0, none⟩), .pointer (some ⟨Bs + 1, 0, none⟩)] (fun k : Fin ((len + 1) / 2) => #[chW v len k.1]) (KpC Bs) (fun ys => ys = upto ((len + 1) / 2) ((len + 1) / 2)) (fun _ => True) ((len + 1) / 2) w := fun l J Jx W hW hJ _ hY h0 => by
  have d1 := (hW.cell (p := ⟨Bs, 0, none⟩) (by show Bs < _; omega)).trans hBs
  have d2 := (hW.cell (p := ⟨Bs + 1, 0, none⟩) hB1).trans hBn
  by_cases h : len = 0
  · subst h
    obtain ⟨a, c, rfl, -⟩ := hR.shape
    exact (chunk1_nil_in n l Bs c a J W d1 h0).mono fun e W' ⟨he, hj⟩ => ⟨he, .inl ⟨_, rfl, hj⟩⟩
  · obtain ⟨g, off, c, rfl, hg, hc⟩ := hR.form (by omega)
    refine (chunk1_in n _ hn l Bs g off len c hc hlen J Jx hJ hY W d1 d2 h0).mono ?_
    rintro e W' ⟨he, ⟨ys, rfl, hj⟩ | ⟨pre, hj⟩⟩
    · exact ⟨he, .inl ⟨_, rfl, hj⟩⟩
    · exact ⟨he, .inr ⟨_, trivial, hj⟩⟩
theorem spCs_drop : ∀ (a : Nat) (l : List Sp), spCs (l.drop a) = (spCs l).drop (a * 3)
  | 0, l => by simp
  | a + 1, [] => by simp [spCs]
  | a + 1, x :: l => by
    have : spCs (x :: l) = spC x ++ spCs l := rfl
    have e : List.drop ((a + 1) * 3) (spC x) = [] := List.drop_eq_nil_of_le (by simp [spC]; omega)
    rw [List.drop_succ_cons, this, spCs_drop a l, List.drop_append, e, List.nil_append]
    congr 1; simp [spC]; omega
theorem spCs_take : ∀ (a : Nat) (l : List Sp), spCs (l.take a) = (spCs l).take (a * 3)
  | 0, l => by simp [spCs]
  | a + 1, [] => by simp [spCs]
  | a + 1, x :: l => by
    have h : spCs (x :: l) = spC x ++ spCs l := rfl
    have h2 : spCs (x :: l.take a) = spC x ++ spCs (l.take a) := rfl
    rw [List.take_succ_cons, h, h2, spCs_take a l, List.take_append, List.take_of_length_le (l := spC x) (by simp [spC]; omega)]
    congr 2; simp [spC]; omega
theorem SpansR.sub {F : Nat → Prop} {w : World} {g off n c : Nat} {l : List Sp} (h : SpansR F w (.slice (some ⟨g, off, none⟩) n c) l) (a m : Nat) (hF : F g) : SpansR F w (.slice (some ⟨g, off + a * 3, none⟩) ((l.drop a).take m).length ((l.drop a).take m).length) ((l.drop a).take m) := by
  refine ⟨⟨_, _, rfl, Nat.le_refl _, fun h => by cases h⟩, fun _ => ⟨g, _, _, rfl, hF, Nat.le_refl _⟩, fun hv j u hj => ?_⟩
  cases hv
  rw [spCs_take, spCs_drop, List.getElem?_take] at hj
  split at hj
  · rw [List.getElem?_drop] at hj
    have := Rs.cells h rfl _ _ hj
    rw [← this]; congr 2; omega
  · cases hj
/-- an append inside a region of a loop's round -/
theorem stepIn_append_sl {P : Program} {w : World} {l n' : Nat} {ops : Array Oper} {o : Oper} {a : Act} {K : Act → World → Prop} {Q : Exit → Act → World → Prop} {Z : Prop} (hgd : o.guard = none) (s x : Operand) (t : TypeId)
    (ho : o.op = .call { callee := .builtin .append, args := #[s, x], argTypes := #[t, t] })
    {e : TypeId} {sz bytes : Nat} (E : El P t e sz bytes) {v : Value} {n : Nat} {xs : List Value} (hs : a.eval s = v) (hown : Sl w e sz v n xs)
    {y : Value} {m : Nat} {news : List Value} (hy : a.eval x = y) (hx : Rd w y m news) (hl : news.length = m * sz) (h1 : ∀ u ∈ news, u.oneCell' = true)
    (hbytes : (n + m) * bytes ≤ 140737488355328) (h63 : n + m ≤ 140737488355328)
    (h : ∀ v' w', Sl w' e sz v' (n + m) (xs ++ news) → w.grownBy w' v.ownBlock → (v'.ownBlock = v.ownBlock ∨ v'.ownBlock = some w.heap.size) → (v' = .slice none 0 0 ↔ v = .slice none 0 0 ∧ m = 0) → K (a.put o.dst v') w') :
    if Region.wanted o (yielded ops a.tmps) = true then Oper.wpIn (Fence.wide.inRound l) n' P o a w K Q else Z := by
  have hw : Region.wanted o (yielded ops a.tmps) = true := by simp [Region.wanted, hgd]
  rw [if_pos hw]
  obtain ⟨v', w', hr, h2, h3, h4, h5⟩ := run_append_sl (P := P) w (ty := o.type) E hown hx hl h1 hbytes h63
  refine ⟨fun _ _ => trivial, ?_⟩
  rw [Oper.semAt_eq _ _ _ (fun c hc => by rw [ho] at hc; cases hc)]
  unfold execOp
  simp only [ho, resolve, invoke, builtin, Sem.run_bind, Sem.run_pure, Result.andThen_ok, List.map_toArray, List.map_cons, List.map_nil, hs, hy, hr]
  exact h v' w' h2 h3 h4 h5
/-! ### the caller -/
theorem el_spans2 : El Tryz.prog 130 51 1 24 := El.mk' (z := .slice none 0 0) (by kernel_rfl) (by kernel_rfl) rfl (by decide)
def chunkS (l : List Sp) (k : Nat) : List Sp := (l.drop (2 * k)).take 2
def chunksS (l : List Sp) : List (List Sp) := if l = [] then [[]] else (List.range ((l.length + 1) / 2)).map (chunkS l)
/-- behind some rounds -/
structure ChAt (w : World) (l : List Sp) (B0 N : Nat) (pre : List (Fin N)) (W : World) (cv : Value) (cvs : List Value) : Prop where
  box : Blk W B0 130 [cv]
  len : cvs.length = pre.length
  out : Sl W 51 1 cv pre.length cvs
  new : ∀ g, cv.ownBlock = some g → B0 + 3 ≤ g
  big : B0 + 3 ≤ W.heap.size
  nil : cv = .slice none 0 0 ↔ pre = []
  ins : ∀ (i : Nat) (k : Fin N) (u : Value), pre[i]? = some k → cvs[i]? = some u → Sl W 37 3 u (chunkS l k.1).length (spCs (chunkS l k.1)) ∧ (∀ g, u.ownBlock = some g → B0 + 3 ≤ g) ∧ u ≠ .slice none 0 0
  fr : Fr (fun _ => False) w W
theorem ChAt.kept {w W W' : World} {l : List Sp} {B0 N : Nat} {pre : List (Fin N)} {cv : Value} {cvs : List Value} (h : ChAt w l B0 N pre W cv cvs) (hf : Fr (fun j => ∃ o, W.heap[j]? = some o ∧ o.isCells = false) W W') (hB : ∀ j, j < w.heap.size → W'.heap[j]? = W.heap[j]?) : ChAt w l B0 N pre W' cv cvs := by
  have nb : ∀ {b : Nat} {cs : Array Value} {e : TypeId} {z : Nat × Nat}, W.heap[b]? = some (.cells cs e z) → ¬ ∃ o, W.heap[b]? = some o ∧ o.isCells = false := fun hb ⟨o, ho, hc⟩ => by rw [hb] at ho; cases ho; cases hc
  have ns : ∀ {e : TypeId} {sz n : Nat} {v : Value} {xs : List Value}, Sl W e sz v n xs → ∀ g, v.ownBlock = some g → ¬ ∃ o, W.heap[g]? = some o ∧ o.isCells = false := fun hs g hg => by
    rcases hs.2 with ⟨rfl, -⟩ | ⟨g', off, cap, cur, rfl, hb, -⟩
    · cases hg
    · cases hg; exact nb hb
  exact ⟨h.box.fr hf (nb h.box), h.len, h.out.fr hf (ns h.out), h.new, Nat.le_trans h.big hf.size, h.nil, fun i k u hk hu => ⟨(h.ins i k u hk hu).1.fr hf (ns (h.ins i k u hk hu).1), (h.ins i k u hk hu).2⟩,
    ⟨hf.os.trans h.fr.os, hf.tape.trans h.fr.tape, hf.output.trans h.fr.output, Nat.le_trans h.fr.size hf.size, fun j hj _ => (hB j hj).trans (h.fr.block j hj (fun h => h))⟩⟩
def ChI (w : World) (l : List Sp) (B0 N : Nat) (pre : List (Fin N)) (W : World) : Prop := ∃ cv cvs, ChAt w l B0 N pre W cv cvs
theorem ChI.own (w : World) (l : List Sp) (B0 N B : Nat) (hw : w.heap.size ≤ B) : OwnFrom B (ChI w l B0 N) := fun pre A A' row ⟨cv, cvs, h⟩ hg hr =>
  ⟨cv, cvs, h.kept ((Fr.refl _ A).grown hg (fun k _ e => (hr k e).2)) (fun j hj => hg.block j (Nat.lt_of_lt_of_le hj h.fr.size) (fun e => by have := (hr j e.symm).1; omega))⟩
def ChunksPost (w : World) (l : List Sp) (e : Ending) (w' : World) : Prop :=
  ∃ (cv : Value) (cvs : List Value), e = .returned cv ∧ cvs.length = (chunksS l).length ∧ Sl w' 51 1 cv cvs.length cvs ∧ (∀ g, cv.ownBlock = some g → w.heap.size ≤ g) ∧
    (∀ (i : Nat) (s : List Sp) (u : Value), (chunksS l)[i]? = some s → cvs[i]? = some u → Sl w' 37 3 u s.length (spCs s) ∧ (∀ g, u.ownBlock = some g → w.heap.size ≤ g) ∧ (u = .slice none 0 0 ↔ s = [])) ∧ Fr (fun _ => False) w w'
theorem KpC.putObj {Bs : Nat} {W : World} {j : Nat} {o' : Obj} (h : Bs + 1 < j) : KpC Bs W (W.putObj j o') := by
  have hb : ∀ k, k ≠ j → (W.putObj j o').heap[k]? = W.heap[k]? := fun k hk => World.putObj_heap_other hk
  exact ⟨World.cell?_of_block (hb Bs (by omega)), World.cell?_of_block (hb (Bs + 1) (by omega))⟩
theorem KeepsOthers.of_fr {W W' : World} {S : Nat → Prop} (hf : Fr S W W') (hS : ∀ k, S k → ∃ cs T z, W.heap[k]? = some (.cells cs T z)) : KeepsOthers W W' :=
  ⟨hf.size, fun k o ho hc => by
    have hk : ¬ S k := fun h => by obtain ⟨cs, T, z, hh⟩ := hS k h; rw [hh] at ho; cases ho; cases hc
    exact (hf.block k (Array.getElem?_eq_some_iff.1 ho).1 hk).trans ho⟩
theorem Sl.ne_sl {w : World} {e e' : TypeId} {sz sz' n n' : Nat} {v v' : Value} {xs xs' : List Value} (h : Sl w e sz v n xs) (h' : Sl w e' sz' v' n' xs') (he : e ≠ e') {g : Nat} (hg : v.ownBlock = some g) : v'.ownBlock ≠ some g := by
  rcases h.2 with ⟨rfl, -⟩ | ⟨g1, off, cap, cur, rfl, hb, -⟩
  · cases hg
  · cases hg
    rcases h'.2 with ⟨rfl, -⟩ | ⟨g2, off', cap', cur', rfl, hb', -⟩
    · simp [Value.ownBlock]
    · rintro e2; cases e2; rw [hb] at hb'; cases hb'; exact he rfl
theorem Sl.is_cells {w : World} {e : TypeId} {sz n : Nat} {v : Value} {xs : List Value} (h : Sl w e sz v n xs) {g : Nat} (hg : v.ownBlock = some g) : ∃ cs T z, w.heap[g]? = some (.cells cs T z) := by
  rcases h.2 with ⟨rfl, -⟩ | ⟨g1, off, cap, cur, rfl, hb, -⟩
  · cases hg
  · cases hg; exact ⟨_, _, _, hb⟩
theorem chunk_next {w : World} {l : List Sp} {B0 N : Nat} {pre : List (Fin N)} {x : Fin N} {W w1 w2 : World} {ca v2a ua : Option Addr} {cc v2c uc : Nat} {cvs : List Value} (hw : w.heap.size = B0) (h : ChAt w l B0 N pre W (.slice ca pre.length cc) cvs) (hWw : Fr (fun _ => False) W w1)
    (hS1 : Sl w1 37 3 (.slice ua (chunkS l x.1).length uc) (chunkS l x.1).length (spCs (chunkS l x.1))) (hG1 : ∀ g, (Value.slice ua (chunkS l x.1).length uc).ownBlock = some g → W.heap.size ≤ g) (hne : chunkS l x.1 ≠ [])
    (hs2 : Sl w2 51 1 (.slice v2a (pre.length + 1) v2c) (pre.length + 1) (cvs ++ [.slice ua (chunkS l x.1).length uc])) (hg2 : (w1.alloc (.cells #[.slice ua (chunkS l x.1).length uc] 51)).grownBy w2 (Value.slice ca pre.length cc).ownBlock)
    (hb2 : (Value.slice v2a (pre.length + 1) v2c).ownBlock = (Value.slice ca pre.length cc).ownBlock ∨ (Value.slice v2a (pre.length + 1) v2c).ownBlock = some (w1.alloc (.cells #[.slice ua (chunkS l x.1).length uc] 51)).heap.size) (hn2 : Value.slice v2a (pre.length + 1) v2c = .slice none 0 0 ↔ Value.slice ca pre.length cc = .slice none 0 0 ∧ 1 = 0) :
    w2.cell? ⟨B0, 0, none⟩ = some (.slice ca pre.length cc) ∧ w2.frozen? ⟨B0, 0, none⟩ = false ∧
      (KeepsOthers W (w2.setCell ⟨B0, 0, none⟩ (.slice v2a (pre.length + 1) v2c)) ∧ KpC (B0 + 1) W (w2.setCell ⟨B0, 0, none⟩ (.slice v2a (pre.length + 1) v2c)) ∧ ChI w l B0 N (pre ++ [x]) (w2.setCell ⟨B0, 0, none⟩ (.slice v2a (pre.length + 1) v2c))) := by
  have hbig := h.big
  have hf : Fr (fun k => (Value.slice ca pre.length cc).ownBlock = some k) W w2 := (hWw.mono (fun _ _ h => h.elim) |>.alloc _).grown hg2 (fun _ _ e => e)
  have hnb : (Value.slice ca pre.length cc).ownBlock ≠ some B0 := fun e => by have := h.new _ e; omega
  have hB2 := h.box.fr hf hnb
  have hf2 : Fr (fun k => k = B0) w2 (w2.setCell ⟨B0, 0, none⟩ (.slice v2a (pre.length + 1) v2c)) := (Fr.refl (fun k => k = B0) w2).setCell (p := ⟨B0, 0, none⟩) (fun _ => rfl) _
  have hf3 : Fr (fun k => k = B0 ∨ (Value.slice ca pre.length cc).ownBlock = some k) W (w2.setCell ⟨B0, 0, none⟩ (.slice v2a (pre.length + 1) v2c)) := (hf.mono (fun _ _ h => .inr h)).trans hf2 (fun _ _ h => .inl h)
  have hs1 := hWw.size
  have hvn : ∀ g, (Value.slice v2a (pre.length + 1) v2c).ownBlock = some g → B0 + 3 ≤ g := fun g hg => by
    rcases hb2 with e | e
    · exact h.new g (e ▸ hg)
    · rw [e] at hg; simp at hg; omega
  refine ⟨hB2.get (i := 0) rfl, hB2.frozen 0, KeepsOthers.of_fr hf3 (fun k hk => ?_), ⟨?_, ?_⟩, .slice v2a (pre.length + 1) v2c, cvs ++ [.slice ua (chunkS l x.1).length uc], hB2.set 0 _, by simp [h.len], ?_, hvn, Nat.le_trans hbig hf3.size, ?_, fun i k u hk hu => ?_, ?_⟩
  · rcases hk with rfl | hk
    · exact ⟨_, _, _, h.box⟩
    · exact h.out.is_cells hk
  · exact hf3.cell (p := ⟨B0 + 1, 0, none⟩) (by show B0 + 1 < _; omega) (fun e => by
      rcases e with e | e
      · simp at e
      · have := h.new _ e; simp at this)
  · exact hf3.cell (p := ⟨B0 + 1 + 1, 0, none⟩) (by show B0 + 1 + 1 < _; omega) (fun e => by
      rcases e with e | e
      · simp at e; omega
      · have := h.new _ e; simp at this; omega)
  · rw [List.length_append, List.length_singleton]
    exact hs2.fr hf2 (fun g hg e => by have := hvn g hg; omega)
  · rw [hn2]; simp
  · rcases Nat.lt_or_ge i pre.length with hi | hi
    · rw [List.getElem?_append_left hi] at hk
      rw [List.getElem?_append_left (by rw [h.len]; exact hi)] at hu
      obtain ⟨h1, h2, h3⟩ := h.ins i k u hk hu
      refine ⟨h1.fr hf3 (fun g hg e => ?_), h2, h3⟩
      rcases e with e | e
      · have := h2 g hg; omega
      · exact Sl.ne_sl h1 h.out (by decide) hg e
    · rw [List.getElem?_append_right hi] at hk
      rw [List.getElem?_append_right (by rw [h.len]; exact hi), h.len] at hu
      obtain ⟨hi2, rfl⟩ : i - pre.length = 0 ∧ x = k := by
        rw [List.getElem?_singleton] at hk; split at hk
        · next h0 => cases hk; exact ⟨h0, rfl⟩
        · cases hk
      rw [hi2] at hu
      simp only [List.getElem?_cons_zero, Option.some.injEq] at hu
      subst hu
      have hu3 : ∀ g, (Value.slice ua (chunkS l x.1).length uc).ownBlock = some g → B0 + 3 ≤ g := fun g hg => by have := hG1 g hg; omega
      refine ⟨((hS1.alloc _).grown hg2 ?_).fr hf2 (fun g hg e => by have := hu3 g hg; omega), hu3, ?_⟩
      · cases hh : (Value.slice ua (chunkS l x.1).length uc).ownBlock with
        | none => exact .inl rfl
        | some g =>
          refine .inr (fun e => ?_)
          have := hG1 g hh
          have := h.out.lt e.symm
          omega
      · intro e
        have := congrArg (fun v : Value => match v with | .slice _ n _ => n | _ => 0) e
        exact hne (List.eq_nil_of_length_eq_zero this)
  · exact h.fr.trans hf3 (fun k hk e => by
      rcases e with e | e
      · omega
      · have := h.new _ e; omega)
set_option maxHeartbeats 2000000 in
theorem span_chunks (F : Nat → Prop) (w : World) (v : Value) (l : List Sp) (h : SpansR F w v l) (hF : Bd F w) (hl : (l.length : Int) ≤ 100000) : Calls Tryz.prog 101 #[v] w (ChunksPost w l) := by
  obtain ⟨va, vc, rfl, hvc, hvn⟩ := Rs.shape h
  refine (callsIn_wide (n := 9)).1 ?_
  refine callsIn_of_wp_marks Tryz.func101 rfl trivial ?_ rfl
  simp only [Tryz.ntmps101, List.size_toArray, List.length_cons, List.length_nil, Nat.reduceAdd, Nat.reduceSub, Array.replicate_succ, Array.replicate_zero, List.push_toArray, List.append_toArray, List.nil_append, List.cons_append]
  gi_wp2_with (refine ⟨trivial, ?_⟩; gi_at_call 130; refine (chunk_in _ _ _ _ _).mono ?_; rintro e w' ⟨rfl, rfl⟩)
  obtain ⟨W0, hW0⟩ : ∃ W0, W0 = ((w.alloc (.cells #[.slice none 0 0] 130)).alloc (.cells #[.slice va l.length vc] 51)).alloc (.cells #[.int .i64 2] 3) := ⟨_, rfl⟩
  have hf0 : Fr (fun _ => False) w W0 := by rw [hW0]; exact (((Fr.refl _ w).alloc _).alloc _).alloc _
  have hsz : W0.heap.size = w.heap.size + 3 := by rw [hW0]; simp
  have hb0 : Blk W0 w.heap.size 130 [.slice none 0 0] := by rw [hW0]; exact ((Blk.new w [.slice none 0 0] 130).alloc _).alloc _
  have hb1 : W0.cell? ⟨w.heap.size + 1, 0, none⟩ = some (.slice va l.length vc) := by
    have := ((Blk.new (w.alloc (.cells #[.slice none 0 0] 130)) [.slice va l.length vc] 51).alloc (.cells #[.int .i64 2] 3)).get (i := 0) rfl
    rw [hW0]; simpa using this
  have hb2 : W0.cell? ⟨w.heap.size + 1 + 1, 0, none⟩ = some (.int .i64 2) := by
    have := (Blk.new ((w.alloc (.cells #[.slice none 0 0] 130)).alloc (.cells #[.slice va l.length vc] 51)) [.int .i64 2] 3).get (i := 0) rfl
    rw [hW0]; simpa using this
  rw [← hW0]
  have h0 : ChI w l w.heap.size ((l.length + 1) / 2) [] W0 := ⟨_, [], hb0, rfl, Sl.nil _ _ _, (fun g hg => by cases hg), by omega, by simp, (fun i k u hk => by simp at hk), hf0⟩
  clear hW0
  refine wpIn_rangeFunc_ownF (F := Fence.wide) (n := 9) rfl (by omega) (gf := 143) (lb := #[.pointer (some ⟨w.heap.size + 1, 0, none⟩), .pointer (some ⟨w.heap.size + 1 + 1, 0, none⟩)]) rfl trivial (enters_of Tryz.func143 (by kernel_rfl) rfl)
    (chunk_stops 8 (by omega) (w.heap.size + 1) _ l.length (spCs l) F (by omega) w W0 h (spCs_length l) (by omega) hb1 hb2) (fun h k => ⟨k.1.trans h.1, k.2.trans h.2⟩)
    (fun W j o o' hj _ _ _ => KpC.putObj (by omega)) (Below.refl _ _) (fun _ => rfl) (ChI w l w.heap.size ((l.length + 1) / 2)) (fun _ _ _ => False) (ChI.own _ _ _ _ _ (by omega)) (fun _ _ _ _ _ h _ _ => h) h0
    (fun x => { tmps := #[.slice va l.length vc, undef, .pointer (some ⟨w.heap.size, 0, none⟩), chW (.slice va l.length vc) l.length x.1, .slice va l.length vc, .func (.func 143) #[] #[.pointer (some ⟨w.heap.size + 1, 0, none⟩), .pointer (some ⟨w.heap.size + 1 + 1, 0, none⟩)], chW (.slice va l.length vc) l.length x.1, undef, undef, undef, undef, undef, undef, undef, undef, undef, undef], defers := [] }) ?assign ?body ?done ?stop
  case assign =>
    intro l' x W K hK
    gi_wp2
    exact hK
  case body =>
    rintro l' pre x W ⟨cv, cvs, hc⟩ hlt
    have hmx : Tryz.prog.follows .mixedOrders = true := by kernel_rfl
    have hWs : w.heap.size + 3 ≤ W.heap.size := hc.big
    have c0 := hc.box.get (i := 0) rfl
    have z0 := hc.box.frozen 0
    have hlt2 : 2 * x.1 < l.length := by have := x.2; omega
    obtain ⟨g, off, c', hv, hFg, -⟩ := Rs.form h (by rw [spCs_length]; omega)
    have hcl : chN l.length x.1 = (chunkS l x.1).length := by unfold chN chunkS; simp
    have hsub : SpansR F W (chW (.slice va l.length vc) l.length x.1) (chunkS l x.1) := by
      have := SpansR.sub (F := F) (w := W) (g := g) (off := off) (n := l.length) (c := c') (l := l) (hv ▸ Rs.fr h hc.fr (fun _ _ h => h)) (2 * x.1) 2 hFg
      rw [hv]; show SpansR F W (chV g off l.length x.1) _
      rw [chV_eq, hcl]; exact this
    have hne : chunkS l x.1 ≠ [] := by
      intro e; have := congrArg List.length e; unfold chunkS at this; simp at this; omega
    have hch : ∃ a n c, chW (.slice va l.length vc) l.length x.1 = .slice (some a) n c := by rw [hv]; exact ⟨_, _, _, rfl⟩
    obtain ⟨ha, hn', hc', hchv⟩ := hch
    have HC : ∀ W', Fr (fun _ => False) W W' → Calls Tryz.prog 131 #[chW (.slice va l.length vc) l.length x.1] W' (NewSpans W' (chunkS l x.1)) := fun W' hW => clone_spans F W' _ _ (Rs.fr hsub hW (fun _ _ h => h)) (by rw [hchv]; simp [hne]) (by unfold chunkS; simp; omega)
    obtain ⟨ca, cc, hcv⟩ := hc.out.lit
    subst hcv
    have hlp : (pre.length : Int) ≤ 100000 := by omega
    have HCh : Hid _ := HC
    have HSub : Hid _ := hsub
    have HHc : Hid _ := hc
    have HH : Hid _ := h
    clear HC hsub hcl hchv hv hc h
    obtain ⟨X, hX⟩ : ∃ X, X = chW (.slice va l.length vc) l.length x.1 := ⟨_, rfl⟩
    rw [← hX] at HCh ⊢
    clear hX
    gi_wp2
    refine wpIn_region_any hmx ?_
    change wpAnyIn _ _ _ _ _ _ _ _ _ (World.drew W)
    --BEGIN
    refine wpAnyIn_ready (rs := [0, 1]) (by kernel_rfl) (by simp) ?_
    refine AllReadyIn.cons rfl (fun K hK => ?_) (AllReadyIn.cons rfl (fun K hK => ?_) AllReadyIn.nil)
    · go_simp
      refine hK _ _ ?_
      refine wpAnyIn_ready (rs := [1]) (by kernel_rfl) (by simp) ?_
      refine AllReadyIn.cons rfl (fun K hK => ?_) AllReadyIn.nil
      go_simp
      refine hK _ _ ?_
      refine wpAnyIn_ready (rs := [2]) (by kernel_rfl) (by simp) ?_
      refine AllReadyIn.cons rfl (fun K hK => ?_) AllReadyIn.nil
      go_simp
      refine ⟨trivial, ?_⟩
      refine (CallsIn.inRound l' (callsIn_wide.2 (HCh.out _ (by repeat first | exact Fr.refl _ _ | refine Fr.drew ?_)))).mono ?_
      rintro e w1 ⟨u, rfl, hS1, hG1, hN1, hF1⟩
      obtain ⟨ua, uc, rfl⟩ := hS1.lit
      have hWw : Fr (fun _ => False) W w1 := (Fr.refl (fun _ => False) W).drew.trans hF1 (fun _ _ h => h)
      have k0 := (HHc.out.box.fr hWw (fun h => h)).get (i := 0) rfl
      have kl := (HHc.out.box.fr hWw (fun h => h)).lt
      have q0 : (w1.alloc (.cells #[.slice ua (chunkS l x.1).length uc] 51)).cell? ⟨w.heap.size, 0, none⟩ = some (.slice ca pre.length cc) := ((HHc.out.box.fr hWw (fun h => h)).alloc _).get (i := 0) rfl
      refine hK _ _ ?_
      refine wpAnyIn_ready (rs := [3]) (by kernel_rfl) (by simp) ?_
      refine AllReadyIn.cons rfl (fun K hK => ?_) AllReadyIn.nil
      go_simp
      refine hK _ _ ?_
      refine wpAnyIn_ready (rs := [4]) (by kernel_rfl) (by simp) ?_
      refine AllReadyIn.cons rfl (fun K hK => ?_) AllReadyIn.nil
      refine stepIn_append_sl (by rfl) _ _ _ (by rfl) el_spans2 (v := .slice ca pre.length cc) (by rfl) (Sl.fr HHc.out.out (hWw.alloc _) (fun _ _ h => h)) (by rfl) (rd_one w1 (.slice ua (chunkS l x.1).length uc) 51 rfl) rfl (by simp [Value.oneCell']) (by omega) (by omega) ?_
      intro v2 w2 hs2 hg2 hb2 hn2
      obtain ⟨v2a, v2c, rfl⟩ := hs2.lit
      have HN := chunk_next rfl HHc.out hWw hS1 hG1 hne hs2 hg2 hb2 hn2
      have z2 := HN.1
      have z3 := HN.2.1
      refine hK _ _ ?_
      refine wpAnyIn_ready (rs := [5]) (by kernel_rfl) (by simp) ?_
      refine AllReadyIn.cons rfl (fun K hK => ?_) AllReadyIn.nil
      go_simp
      refine hK _ _ ?_
      refine wpAnyIn_done (by kernel_rfl) ?_ _
      exact HN.2.2
    · go_simp
      refine hK _ _ ?_
      refine wpAnyIn_ready (rs := [0, 2]) (by kernel_rfl) (by simp) ?_
      refine AllReadyIn.cons rfl (fun K hK => ?_) (AllReadyIn.cons rfl (fun K hK => ?_) AllReadyIn.nil)
      · go_simp
        refine hK _ _ ?_
        refine wpAnyIn_ready (rs := [2]) (by kernel_rfl) (by simp) ?_
        refine AllReadyIn.cons rfl (fun K hK => ?_) AllReadyIn.nil
        go_simp
        refine ⟨trivial, ?_⟩
        refine (CallsIn.inRound l' (callsIn_wide.2 (HCh.out _ (by repeat first | exact Fr.refl _ _ | refine Fr.drew ?_)))).mono ?_
        rintro e w1 ⟨u, rfl, hS1, hG1, hN1, hF1⟩
        obtain ⟨ua, uc, rfl⟩ := hS1.lit
        have hWw : Fr (fun _ => False) W w1 := (Fr.refl (fun _ => False) W).drew.trans hF1 (fun _ _ h => h)
        have k0 := (HHc.out.box.fr hWw (fun h => h)).get (i := 0) rfl
        have kl := (HHc.out.box.fr hWw (fun h => h)).lt
        have q0 : (w1.alloc (.cells #[.slice ua (chunkS l x.1).length uc] 51)).cell? ⟨w.heap.size, 0, none⟩ = some (.slice ca pre.length cc) := ((HHc.out.box.fr hWw (fun h => h)).alloc _).get (i := 0) rfl
        refine hK _ _ ?_
        refine wpAnyIn_ready (rs := [3]) (by kernel_rfl) (by simp) ?_
        refine AllReadyIn.cons rfl (fun K hK => ?_) AllReadyIn.nil
        go_simp
        refine hK _ _ ?_
        refine wpAnyIn_ready (rs := [4]) (by kernel_rfl) (by simp) ?_
        refine AllReadyIn.cons rfl (fun K hK => ?_) AllReadyIn.nil
        refine stepIn_append_sl (by rfl) _ _ _ (by rfl) el_spans2 (v := .slice ca pre.length cc) (by rfl) (Sl.fr HHc.out.out (hWw.alloc _) (fun _ _ h => h)) (by rfl) (rd_one w1 (.slice ua (chunkS l x.1).length uc) 51 rfl) rfl (by simp [Value.oneCell']) (by omega) (by omega) ?_
        intro v2 w2 hs2 hg2 hb2 hn2
        obtain ⟨v2a, v2c, rfl⟩ := hs2.lit
        have HN := chunk_next rfl HHc.out hWw hS1 hG1 hne hs2 hg2 hb2 hn2
        have z2 := HN.1
        have z3 := HN.2.1
        refine hK _ _ ?_
        refine wpAnyIn_ready (rs := [5]) (by kernel_rfl) (by simp) ?_
        refine AllReadyIn.cons rfl (fun K hK => ?_) AllReadyIn.nil
        go_simp
        refine hK _ _ ?_
        refine wpAnyIn_done (by kernel_rfl) ?_ _
        exact HN.2.2
      · go_simp
        refine ⟨trivial, ?_⟩
        refine (CallsIn.inRound l' (callsIn_wide.2 (HCh.out _ (by repeat first | exact Fr.refl _ _ | refine Fr.drew ?_)))).mono ?_
        rintro e w1 ⟨u, rfl, hS1, hG1, hN1, hF1⟩
        obtain ⟨ua, uc, rfl⟩ := hS1.lit
        have hWw : Fr (fun _ => False) W w1 := (Fr.refl (fun _ => False) W).drew.trans hF1 (fun _ _ h => h)
        have k0 := (HHc.out.box.fr hWw (fun h => h)).get (i := 0) rfl
        have kl := (HHc.out.box.fr hWw (fun h => h)).lt
        have q0 : (w1.alloc (.cells #[.slice ua (chunkS l x.1).length uc] 51)).cell? ⟨w.heap.size, 0, none⟩ = some (.slice ca pre.length cc) := ((HHc.out.box.fr hWw (fun h => h)).alloc _).get (i := 0) rfl
        refine hK _ _ ?_
        refine wpAnyIn_ready (rs := [0, 3]) (by kernel_rfl) (by simp) ?_
        refine AllReadyIn.cons rfl (fun K hK => ?_) (AllReadyIn.cons rfl (fun K hK => ?_) AllReadyIn.nil)
        · go_simp
          refine hK _ _ ?_
          refine wpAnyIn_ready (rs := [3]) (by kernel_rfl) (by simp) ?_
          refine AllReadyIn.cons rfl (fun K hK => ?_) AllReadyIn.nil
          go_simp
          refine hK _ _ ?_
          refine wpAnyIn_ready (rs := [4]) (by kernel_rfl) (by simp) ?_
          refine AllReadyIn.cons rfl (fun K hK => ?_) AllReadyIn.nil
          refine stepIn_append_sl (by rfl) _ _ _ (by rfl) el_spans2 (v := .slice ca pre.length cc) (by rfl) (Sl.fr HHc.out.out (hWw.alloc _) (fun _ _ h => h)) (by rfl) (rd_one w1 (.slice ua (chunkS l x.1).length uc) 51 rfl) rfl (by simp [Value.oneCell']) (by omega) (by omega) ?_
          intro v2 w2 hs2 hg2 hb2 hn2
          obtain ⟨v2a, v2c, rfl⟩ := hs2.lit
          have HN := chunk_next rfl HHc.out hWw hS1 hG1 hne hs2 hg2 hb2 hn2
          have z2 := HN.1
          have z3 := HN.2.1
          refine hK _ _ ?_
          refine wpAnyIn_ready (rs := [5]) (by kernel_rfl) (by simp) ?_
          refine AllReadyIn.cons rfl (fun K hK => ?_) AllReadyIn.nil
          go_simp
          refine hK _ _ ?_
          refine wpAnyIn_done (by kernel_rfl) ?_ _
          exact HN.2.2
        · go_simp
          refine hK _ _ ?_
          refine wpAnyIn_ready (rs := [0]) (by kernel_rfl) (by simp) ?_
          refine AllReadyIn.cons rfl (fun K hK => ?_) AllReadyIn.nil
          go_simp
          refine hK _ _ ?_
          refine wpAnyIn_ready (rs := [4]) (by kernel_rfl) (by simp) ?_
          refine AllReadyIn.cons rfl (fun K hK => ?_) AllReadyIn.nil
          refine stepIn_append_sl (by rfl) _ _ _ (by rfl) el_spans2 (v := .slice ca pre.length cc) (by rfl) (Sl.fr HHc.out.out (hWw.alloc _) (fun _ _ h => h)) (by rfl) (rd_one w1 (.slice ua (chunkS l x.1).length uc) 51 rfl) rfl (by simp [Value.oneCell']) (by omega) (by omega) ?_
          intro v2 w2 hs2 hg2 hb2 hn2
          obtain ⟨v2a, v2c, rfl⟩ := hs2.lit
          have HN := chunk_next rfl HHc.out hWw hS1 hG1 hne hs2 hg2 hb2 hn2
          have z2 := HN.1
          have z3 := HN.2.1
          refine hK _ _ ?_
          refine wpAnyIn_ready (rs := [5]) (by kernel_rfl) (by simp) ?_
          refine AllReadyIn.cons rfl (fun K hK => ?_) AllReadyIn.nil
          go_simp
          refine hK _ _ ?_
          refine wpAnyIn_done (by kernel_rfl) ?_ _
          exact HN.2.2
    --END
  case done =>
    rintro D ys W hD rfl ⟨cv, cvs, hc⟩ hK
    have hul : (upto ((l.length + 1) / 2) ((l.length + 1) / 2)).length = (l.length + 1) / 2 := upto_len (Nat.le_refl _)
    obtain ⟨ca, cc, hcv⟩ := hc.out.lit
    subst hcv
    have c0 := hc.box.get (i := 0) rfl
    have z0 := hc.box.frozen 0
    rw [hul] at c0
    have hlt0 : w.heap.size < W.heap.size := by have := hc.big; omega
    by_cases hl0 : l.length = 0
    · have hN : (((l.length + 1) / 2 : Nat) : Int) = 0 := by omega
      have HN : ((((l.length + 1) / 2 : Nat) : Int) == 0) = true := by simp [hN]
      gi_wp2
      have hf : Fr (fun k => k = w.heap.size) W (((W.setCell ⟨w.heap.size, 0, none⟩ (.slice (some ⟨W.heap.size, 0, none⟩) 1 1)).setCell ⟨w.heap.size, 0, none⟩ (.slice (some ⟨W.heap.size, 0, none⟩) 1 1)).alloc (.cells #[.slice none 0 0] 51)) := (((Fr.refl (fun k => k = w.heap.size) W).setCell (p := ⟨w.heap.size, 0, none⟩) (fun _ => rfl) _).setCell (p := ⟨w.heap.size, 0, none⟩) (fun _ => rfl) _).alloc _
      have hBx := ((hc.box.set 0 (.slice (some ⟨W.heap.size, 0, none⟩) 1 1)).set 0 (.slice (some ⟨W.heap.size, 0, none⟩) 1 1)).alloc (.cells #[.slice none 0 0] 51)
      have hRow := Blk.new ((W.setCell ⟨w.heap.size, 0, none⟩ (.slice (some ⟨W.heap.size, 0, none⟩) 1 1)).setCell ⟨w.heap.size, 0, none⟩ (.slice (some ⟨W.heap.size, 0, none⟩) 1 1)) [.slice none 0 0] 51
      have hDw : D < W.heap.size := (Array.getElem?_eq_some_iff.1 hK).1
      generalize ((W.setCell ⟨w.heap.size, 0, none⟩ (.slice (some ⟨W.heap.size, 0, none⟩) 1 1)).setCell ⟨w.heap.size, 0, none⟩ (.slice (some ⟨W.heap.size, 0, none⟩) 1 1)).alloc (.cells #[.slice none 0 0] 51) = WF at hf hBx hRow ⊢
      have hKF : WF.heap[D]? = some (.deferred (some [])) := (hf.block D hDw (by omega)).trans hK
      refine ⟨by simp, .inl ⟨_, _, rfl, run_takeDeferred (ds := []) hKF, ?_⟩⟩
      have frD : Fr (fun k => k = D) WF (WF.putObj D (.deferred none)) := (Fr.refl _ WF).grown (row := some D) (grownBy_putObj' _ _ _) (fun k _ e => by cases e; rfl)
      have hcell := (hBx.fr frD (by omega)).get (i := 0) rfl
      have hszF := hf.size
      have hRow2 := hRow.fr frD (by simp; omega)
      have hFE : Fr (fun _ => False) w (WF.putObj D (.deferred none)) := (hc.fr.trans hf (fun k hk e => by omega)).trans frD (fun k hk e => by omega)
      have hWsz : w.heap.size ≤ W.heap.size := by omega
      have hse : ((W.setCell ⟨w.heap.size, 0, none⟩ (.slice (some ⟨W.heap.size, 0, none⟩) 1 1)).setCell ⟨w.heap.size, 0, none⟩ (.slice (some ⟨W.heap.size, 0, none⟩) 1 1)).heap.size = W.heap.size := by simp
      rw [hse] at hRow2
      generalize WF.putObj D (.deferred none) = WE at hcell hRow2 hFE ⊢
      have hle : l = [] := List.eq_nil_of_length_eq_zero hl0
      refine ⟨.slice (some ⟨W.heap.size, 0, none⟩) 1 1, by simp [results, Tryz.results101, go_sem, hcell], _, [.slice none 0 0], rfl, by simp [chunksS, hle], ⟨by simp, .inr ⟨_, 0, 1, _, rfl, hRow2, by simp, by simp [maxLen], by simp, by simp⟩⟩, fun g hg => by cases hg; exact hWsz, fun i s u hs hu => ?_, hFE⟩
      have hcs : chunksS l = [[]] := by simp [chunksS, hle]
      rw [hcs] at hs
      cases i with
      | zero => simp at hs hu; subst hs hu; exact ⟨Sl.nil _ _ _, by simp [Value.ownBlock], by simp⟩
      | succ i => simp at hs
    · have HN : ((((l.length + 1) / 2 : Nat) : Int) == 0) = false := by simp; omega
      gi_wp2
      have hf : Fr (fun k => k = w.heap.size) W (W.setCell ⟨w.heap.size, 0, none⟩ (.slice ca ((l.length + 1) / 2) cc)) := (Fr.refl (fun k => k = w.heap.size) W).setCell (p := ⟨w.heap.size, 0, none⟩) (fun _ => rfl) _
      have hBx := hc.box.set 0 (.slice ca ((l.length + 1) / 2) cc)
      have hDw : D < W.heap.size := (Array.getElem?_eq_some_iff.1 hK).1
      generalize W.setCell ⟨w.heap.size, 0, none⟩ (.slice ca ((l.length + 1) / 2) cc) = WF at hf hBx ⊢
      have hKF : WF.heap[D]? = some (.deferred (some [])) := (hf.block D hDw (by omega)).trans hK
      refine ⟨by simp, .inl ⟨_, _, rfl, run_takeDeferred (ds := []) hKF, ?_⟩⟩
      have frD : Fr (fun k => k = D) WF (WF.putObj D (.deferred none)) := (Fr.refl _ WF).grown (row := some D) (grownBy_putObj' _ _ _) (fun k _ e => by cases e; rfl)
      have hcell := (hBx.fr frD (by omega)).get (i := 0) rfl
      have hFE : Fr (fun _ => False) w (WF.putObj D (.deferred none)) := (hc.fr.trans hf (fun k hk e => by omega)).trans frD (fun k hk e => by omega)
      have hFW : Fr (fun k => k = w.heap.size ∨ k = D) W (WF.putObj D (.deferred none)) := (hf.mono (fun _ _ h => .inl h)).trans frD (fun _ _ h => .inr h)
      generalize WF.putObj D (.deferred none) = WE at hcell hFE hFW ⊢
      have hcs : chunksS l = (List.range ((l.length + 1) / 2)).map (chunkS l) := by unfold chunksS; rw [if_neg (fun e => hl0 (by rw [e]; rfl))]
      have nD : ∀ {e : TypeId} {sz n : Nat} {v : Value} {xs : List Value}, Sl W e sz v n xs → ∀ g, v.ownBlock = some g → g ≠ D := fun hs g hg e => by
        obtain ⟨cs, T, z, hh⟩ := hs.is_cells hg
        rw [e, hK] at hh; cases hh
      have hlen := hc.len
      have hout := hc.out
      rw [hul] at hlen hout
      refine ⟨.slice ca ((l.length + 1) / 2) cc, by simp [results, Tryz.results101, go_sem, hcell], _, cvs, rfl, by rw [hcs, hlen]; simp, ?_, fun g hg => ?_, fun i s u hs hu => ?_, hFE⟩
      · rw [hlen]
        exact hout.fr hFW (fun g hg e => by
          rcases e with e | e
          · have := hc.new g (by rw [hul]; exact hg); omega
          · exact nD hout g hg e)
      · have := hc.new g (by rw [hul]; exact hg); omega
      · rw [hcs, List.getElem?_map] at hs
        rcases Nat.lt_or_ge i ((l.length + 1) / 2) with hi | hi
        · rw [List.getElem?_range hi] at hs
          simp only [Option.map_some, Option.some.injEq] at hs
          subst hs
          have hup : (upto ((l.length + 1) / 2) ((l.length + 1) / 2))[i]? = some ⟨i, hi⟩ := by simp [upto, hi]
          obtain ⟨h1, h2, h3⟩ := hc.ins i ⟨i, hi⟩ u hup hu
          refine ⟨h1.fr hFW (fun g hg e => ?_), fun g hg => by have := h2 g hg; omega, ⟨fun e => absurd e h3, fun e => ?_⟩⟩
          · rcases e with e | e
            · have := h2 g hg; omega
            · exact nD h1 g hg e
          · have := congrArg List.length e; unfold chunkS at this; simp at this; omega
        · rw [List.getElem?_eq_none (by simpa using hi)] at hs; cases hs
  case stop =>
    rintro D c pre W _ _ h _
    exact h.elim
end Go.Proofs.YtkjggglmemafgaaGreat
