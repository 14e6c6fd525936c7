import Derived.Test.YtkjggglmemafgaaGreatAgentK
namespace Go.Proofs.YtkjggglmemafgaaGreat
open Go Go.RowKit
set_option linter.unusedVariables false
set_option linter.unusedSimpArgs false
set_option maxRecDepth 20000

/-! ### the states of awake -/
def cfg0 : CfgM := ⟨3, 4, 3, 4, 9, 2, 1⟩
def txX : ByteArray := ⟨#[120]⟩
def txY : ByteArray := ⟨#[121]⟩
def ag0 : AgentM := AgentM.new 1 cfg0
def ag1 : AgentM := { ag0 with k := (ag0.k.write 7 txX).2.2 }
def ag2 : AgentM := (ag1.crumb 7 2).2
def ag3 : AgentM := (ag2.trigger 7 1).2
def ag4 : AgentM := (ag3.hear (.pin 7 4)).2
def ag5 : AgentM := { ag4 with k := (ag4.k.write 7 txY).2.2 }
def ag6 : AgentM := (ag5.hear (.unpin 7 4)).2
theorem ag0_write : ((ag0.k.write 7 txX).1, (ag0.k.write 7 txX).2.1) = (⟨7, 1, txX⟩, 0) := by rfl
theorem ag1_crumb : (ag1.crumb 7 2).1 = 0 := by rfl
theorem ag2_trigger : (ag2.trigger 7 1).1 = 0 := by rfl
theorem ag3_hear : (ag3.hear (.pin 7 4)).1 = ([.pinned ⟨1, 7, 4, 1, [2], false⟩], []) := by rfl
theorem ag4_write : ((ag4.k.write 7 txY).1, (ag4.k.write 7 txY).2.1) = (zSp, 12) := by rfl
theorem ag5_collect4 : ag5.hear (.collect 7 4) = (([], [.chunk 1 7 4 0 1 [⟨7, 1, txX⟩]]), ag5) := by rfl
theorem ag5_collect5 : ag5.hear (.collect 7 5) = (([.gone 1 7 5], []), ag5) := by rfl
theorem ag5_job : ag5.l.job 7 = 4 := by rfl
theorem ag5_unpin : (ag5.hear (.unpin 7 4)).1 = ([.unpinned 1 7 4], []) := by rfl
theorem ag6_job : ag6.l.job 7 = 0 := by rfl
theorem ag6_spans : get ag6.k.P.m 7 [] = [] := by rfl
theorem ag6_used : ag6.k.P.used = 0 := by rfl
theorem ag0_b : AgB ag0 0 := AgB.new cfg0 ⟨by decide, by decide⟩ ⟨by decide, by decide⟩ ⟨by decide, by decide, by decide, by decide⟩ 1
theorem ag1_b : AgB ag1 1 := ag0_b.span 7 txX
theorem ag2_b : AgB ag2 1 := ag1_b.crumb 7 2
theorem ag3_b : AgB ag3 2 := ag2_b.trigger 7 1
theorem ag4_b : AgB ag4 2 := ag3_b.hear _
theorem ag5_b : AgB ag5 3 := ag4_b.span 7 txY
theorem ag6_b : AgB ag6 3 := ag5_b.hear _
end Go.Proofs.YtkjggglmemafgaaGreat
