/-
  The law spoorlaw12.AgentTwice returns true at every input and leaves its arguments as they were: a message that comes twice is answered twice alike, and changes nothing more. No condition.
-/
import Derived.Test.YtkjggglmemafgaaGreatTwiceW
import Derived.Test.YtkjggglmemafgaaGreatOpsOpen
import Derived.Test.YtkjggglmemafgaaGreatRows
namespace Go.Proofs.YtkjggglmemafgaaGreat.TwiceProof
open Go.ChangeShapes Go.WideShapes Go.ChangeAt Go.RowKit Go.Joins
open Go.ChangeMaps (open_string shut_string)
open Go.Proofs.YtkjggglmemafgaaGreat
set_option linter.unusedVariables false

theorem own : ownKnob Tryz.prog.godebug = none := by kernel_rfl
theorem laidOut : laidOutB Tryz.prog = true := by kernel_rfl
theorem walk {v : Value} {l : List OpM} (w : World) (h : OpsR (fun k => k < w.heap.size) w v l) (hl : (l.length : Int) ≤ 9223372036854775807) (pk pt pn : Int) (ps : ByteArray) : Calls Tryz.prog 7 #[v, .agg #[.int .i64 pk, .int .i64 pt, .int .i64 pn, .string ps]] w fun e w' => e = .returned (.bool true) ∧ Below w.heap.size w w' :=
  (law_twice h hl pk pt pn ps).mono fun e w' ⟨he, hS⟩ => ⟨he, hS.old.os, hS.old.tape, hS.old.output, hS.old.size, fun j hj => hS.old.block j hj (fun h => h)⟩
set_option maxRecDepth 100000 in
theorem lifted (os : Os) (started : os.Started) (H : Type) (enc : TypeId × Value → H) :
    ReturnsInHanded {} Tryz.checked os 7 .any (Rows.agentTwiceSpec.pre6 enc Tryz.prog Tryz.f7 Rows.agentTwiceRow.domain false) (Rows.agentTwiceSpec.post enc Tryz.prog Tryz.f7 false true false false) := by
  refine returnsInHanded_of_change (C := Tryz.checked) own started (by kernel_rfl) Tryz.func7
    (ChangeSpec.witness6 (enc := enc) (C := Tryz.checked) false ⟨#[], #[.slice none 0 0, .agg #[.int .i64 0, .int .i64 0, .int .i64 0, .string ByteArray.empty]], []⟩ 8 (by kernel_rfl) (by kernel_rfl) (by kernel_rfl) (by kernel_rfl)) ?_
  intro W base args ds gs before hval0 hW hcnd _
  have hval : ∀ (j : Nat) t v, Tryz.f7.params[j]? = some t → args[j]? = some v → Value.okWide Tryz.prog W .any base t v := hval0
  have hW' := hW
  obtain ⟨p, q, hA0, hV, rfl, hfz, hnd⟩ := hW
  have hA : DataW.TrodAll enc Tryz.prog W 0 (fun _ => true) true Tryz.f7.params.toList args.toList ds p := hA0
  rw [Tryz.params7] at hA hval
  obtain ⟨v0, v1, d0, d1, p0, p1, rfl, rfl, rfl, h0, h1⟩ := trodAll_two hA
  obtain ⟨rfl, rfl⟩ := trodVars_none hV
  have k0 := h0
  have lt0 : ∀ x ∈ p0, x.block < W.heap.size := by obtain ⟨m, hm⟩ := k0; exact DataW.trod_lt m _ _ _ hm
  obtain ⟨a0, len0, cap0, hv0⟩ := okWide_slice Tryz.underlying22 (hval 0 22 v0 rfl rfl)
  obtain ⟨l, hl, hll⟩ := ops_open hv0 h0
  have k1 := h1
  have lt1 : ∀ x ∈ p1, x.block < W.heap.size := by obtain ⟨m, hm⟩ := k1; exact DataW.trod_lt m _ _ _ hm
  have hop : ∃ (k t n : Int) (s : ByteArray), v1 = .agg #[.int .i64 k, .int .i64 t, .int .i64 n, .string s] := by
    obtain ⟨c0, c1, c2, c3, y0, y1, y2, y3, m, rfl, -, -, hy0, hy1, hy2, hy3⟩ := open_agg4 Tryz.underlying35 (by kernel_rfl) cellsOpT (hval 1 35 v1 rfl rfl) h1
    obtain ⟨a0, e0, -, -⟩ := DataW.trod_int Tryz.underlying3 hy0
    obtain ⟨a1, e1, -, -⟩ := DataW.trod_int Tryz.underlying3 hy1
    obtain ⟨a2, e2, -, -⟩ := DataW.trod_int Tryz.underlying3 hy2
    obtain ⟨a3, e3, -⟩ := DataW.trod_string Tryz.underlying9 hy3
    simp at e0 e1 e2 e3
    subst e0 e1 e2 e3
    exact ⟨_, _, _, _, rfl⟩
  obtain ⟨pk, pt, pn, ps, rfl⟩ := hop
  clear hA0 hval0
  refine (walk W hl hll pk pt pn ps).mono fun e W' ⟨he, bel⟩ => ?_
  subst he
  exact ⟨_, rfl, _, _, _, [], _, [], hW', trodAll_mk1 (shut_bool Tryz.underlying4 _), (trodAll_mk2 (Below.trod laidOut (by kernel_rfl) (of_decide_eq_true (by kernel_rfl)) k0 bel lt0) (Below.trod laidOut (by kernel_rfl) (of_decide_eq_true (by kernel_rfl)) k1 bel lt1)), rfl, bel.frame _, fun h => by cases h⟩
theorem over : Rows.agentTwiceRow.holds Tryz.pinned (OpenSpec.ofChange Rows.agentTwiceSpec) :=
  OpenClaim.holds_of_wide 7 Tryz.f7 rfl rfl rfl rfl rfl rfl rfl ⟨rfl, rfl, rfl, rfl, rfl⟩ rfl rfl rfl rfl rfl (by kernel_rfl) Tryz.func7 (by kernel_rfl)
    (of_decide_eq_true (by kernel_rfl)) (by unfold Func.isWrapper; first | (rw [if_pos (by decide +kernel)]; kernel_rfl) | (rw [if_neg (by decide +kernel)]; exact ⟨rfl, rfl⟩))
    (fun os started H enc _ => lifted os started H enc)
theorem proved : Rows.AgentTwiceSaid := over
end Go.Proofs.YtkjggglmemafgaaGreat.TwiceProof
