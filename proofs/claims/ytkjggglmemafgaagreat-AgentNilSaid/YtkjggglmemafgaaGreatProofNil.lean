/-
  The law spoorlaw12.AgentNil returns true at every input and leaves its argument as it was: an agent that is none answers nothing. No condition.
-/
import Derived.Test.YtkjggglmemafgaaGreatNilLaw
import Derived.Test.YtkjggglmemafgaaGreatRows
import Derived.Test.YtkjggglmemafgaaGreatChecked
import Derived.WalkKit
import Derived.ProofKit
import Derived.OpenShut
import Derived.ShutString
import Derived.ChangeOld
import Derived.Below
import Derived.Lib.SmallJoins
namespace Go.Proofs.YtkjggglmemafgaaGreat.NilProof
open Go.ChangeShapes Go.WideShapes Go.ChangeAt Go.RowKit Go.Joins
open Go.ChangeMaps (open_string shut_string)
open Go.Proofs.YtkjggglmemafgaaGreat
set_option linter.unusedVariables false

theorem own : ownKnob Tryz.prog.godebug = none := by kernel_rfl
theorem laidOut : laidOutB Tryz.prog = true := by kernel_rfl
theorem cellsOp : Tryz.prog.cellsOf 35 = 4 := by kernel_rfl
theorem walk (k t n : Int) (s : ByteArray) (w : World) : Calls Tryz.prog 6 #[.agg #[.int .i64 k, .int .i64 t, .int .i64 n, .string s]] w fun e w' => e = .returned (.bool true) ∧ Below w.heap.size w w' :=
  (law_nil (St.start w) k t n s).mono fun e w' ⟨he, hS⟩ => ⟨he, hS.old.os, hS.old.tape, hS.old.output, hS.old.size, fun j hj => hS.old.block j hj (fun h => h)⟩
set_option maxRecDepth 100000 in
theorem lifted (os : Os) (started : os.Started) (H : Type) (enc : TypeId × Value → H) :
    ReturnsInHanded {} Tryz.checked os 6 .any (Rows.agentNilSpec.pre6 enc Tryz.prog Tryz.f6 Rows.agentNilRow.domain false) (Rows.agentNilSpec.post enc Tryz.prog Tryz.f6 false true false false) := by
  refine returnsInHanded_of_change (C := Tryz.checked) own started (by kernel_rfl) Tryz.func6
    (ChangeSpec.witness6 (enc := enc) (C := Tryz.checked) false ⟨#[], #[.agg #[.int .i64 0, .int .i64 0, .int .i64 0, .string ByteArray.empty]], []⟩ 8 (by kernel_rfl) (by kernel_rfl) (by kernel_rfl) (by kernel_rfl)) ?_
  intro W base args ds gs before hval0 hW hcnd _
  have hval : ∀ (j : Nat) t v, Tryz.f6.params[j]? = some t → args[j]? = some v → Value.okWide Tryz.prog W .any base t v := hval0
  have hW' := hW
  obtain ⟨p, q, hA0, hV, rfl, hfz, hnd⟩ := hW
  have hA : DataW.TrodAll enc Tryz.prog W 0 (fun _ => true) true Tryz.f6.params.toList args.toList ds p := hA0
  rw [Tryz.params6] at hA hval
  obtain ⟨v0, d0, rfl, rfl, h0⟩ := trodAll_one hA
  obtain ⟨rfl, rfl⟩ := trodVars_none hV
  have k0 := h0
  have lt0 : ∀ x ∈ p, x.block < W.heap.size := by obtain ⟨m, hm⟩ := k0; exact DataW.trod_lt m _ _ _ hm
  have hop : ∃ (k t n : Int) (s : ByteArray), v0 = .agg #[.int .i64 k, .int .i64 t, .int .i64 n, .string s] := by
    obtain ⟨c0, c1, c2, c3, y0, y1, y2, y3, m, rfl, -, -, hy0, hy1, hy2, hy3⟩ := open_agg4 Tryz.underlying35 (by kernel_rfl) cellsOp (hval 0 35 v0 rfl rfl) h0
    obtain ⟨a0, e0, -, -⟩ := DataW.trod_int Tryz.underlying3 hy0
    obtain ⟨a1, e1, -, -⟩ := DataW.trod_int Tryz.underlying3 hy1
    obtain ⟨a2, e2, -, -⟩ := DataW.trod_int Tryz.underlying3 hy2
    obtain ⟨a3, e3, -⟩ := DataW.trod_string Tryz.underlying9 hy3
    simp at e0 e1 e2 e3
    subst e0 e1 e2 e3
    exact ⟨_, _, _, _, rfl⟩
  obtain ⟨k, t, n, s, rfl⟩ := hop
  clear hA0 hval0
  refine (walk k t n s W).mono fun e W' ⟨he, bel⟩ => ?_
  subst he
  exact ⟨_, rfl, _, _, _, [], _, [], hW', trodAll_mk1 (shut_bool Tryz.underlying4 _), (trodAll_mk1 (Below.trod laidOut (by kernel_rfl) (of_decide_eq_true (by kernel_rfl)) k0 bel lt0)), rfl, bel.frame _, fun h => by cases h⟩
theorem over : Rows.agentNilRow.holds Tryz.pinned (OpenSpec.ofChange Rows.agentNilSpec) :=
  OpenClaim.holds_of_wide 6 Tryz.f6 rfl rfl rfl rfl rfl rfl rfl ⟨rfl, rfl, rfl, rfl, rfl⟩ rfl rfl rfl rfl rfl (by kernel_rfl) Tryz.func6 (by kernel_rfl)
    (of_decide_eq_true (by kernel_rfl)) (by unfold Func.isWrapper; first | (rw [if_pos (by decide +kernel)]; kernel_rfl) | (rw [if_neg (by decide +kernel)]; exact ⟨rfl, rfl⟩))
    (fun os started H enc _ => lifted os started H enc)
theorem proved : Rows.AgentNilSaid := over
end Go.Proofs.YtkjggglmemafgaaGreat.NilProof
