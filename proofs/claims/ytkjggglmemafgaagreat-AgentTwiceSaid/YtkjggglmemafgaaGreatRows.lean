/-
  No cell of these rows narrows 'for every input' (looked for: loops, veiled, ifaces, maps, wideKeys, modest, calm, conditions, laid).
  DERIVED. THE GIVEN ROWS OF THIS SEAT. 5 by the template 'for every input the law returns true; each argument reads behind the call as it read before'; 0 by the template 'total and deterministic' (their statements: YtkjggglmemafgaaGreatTotals.lean).
  GIVEN WITH THE SEED: the statements are not yours to turn. If you find one false, say at which input.
  Laid BY PROGRAM, IN A SANDBOX (cutbox-rows.mjs): the forced cells as the released guide's own fill.sh prints them over the translation c616ceb072850c5c… (all of the seat's roots in one cut). By AI agents, Wed Nov 11 2026. No macro, syntax, notation, axiom, sorry.
-/
import Derived.Test.YtkjggglmemafgaaGreatChecked
import GoSem.Claim
import GoSem.ClaimJoined
import GoSem.ClaimMapViews
import Derived.JoinedTies
import Derived.KernelRfl
namespace Go.Proofs.YtkjggglmemafgaaGreat
/- THE CELL 'sum', in the pinned program and in every row, IS THE sha256 OF THE DUMP (.gsa) THAT YtkjggglmemafgaaGreatProg.lean LOADS. Nothing in Lean hashes anything: it is a label: what it is worth is what the hold of that sum in a sandbox is worth. -/
noncomputable def Tryz.pinned : Pinned := { name := "ytkjggglmemafgaagreat", sum := "c616ceb072850c5cbb0be2b2a3c8c4d0309fc9e07e5e01435182b356e280670b", checked := Tryz.checked }
namespace Rows
def none {H : Type} : Left H := { results := [], args := [] }

/-- 'spoorlaw12.AgentFrees': WHATEVER THE INPUT: true; the input reads as it did. -/
def agentFreesSpec : ChangeSpec := { name := "agentFrees", fn := fun _ => fun
  | [d1, d2, d3] => { results := [.lit (.bool true)], args := [d1, d2, d3] }
  | _ => none }
def agentFreesRow : OpenClaim := { program := "ytkjggglmemafgaagreat", sum := "c616ceb072850c5cbb0be2b2a3c8c4d0309fc9e07e5e01435182b356e280670b", func := "spoor/spoorlaw12.AgentFrees", spec := "agentFrees", inPlace := ["slices.overlaps[int]"], unfollowed := true, recurses := true, apart := false }
def AgentFreesSaid : Prop := agentFreesRow.holds Tryz.pinned (OpenSpec.ofChange agentFreesSpec)

/-- ITS FALSE NEIGHBOUR: 'it returns false'. Refute it at one input. -/
def agentFreesWrong : ChangeSpec := { name := "agentFrees", fn := fun _ => fun
  | [d1, d2, d3] => { results := [.lit (.bool false)], args := [d1, d2, d3] }
  | _ => none }
def AgentFreesWrongFalsely : Prop := agentFreesRow.holds Tryz.pinned (OpenSpec.ofChange agentFreesWrong)

/-- 'spoorlaw12.AgentBounds': WHATEVER THE INPUT: true; the input reads as it did. -/
def agentBoundsSpec : ChangeSpec := { name := "agentBounds", fn := fun _ => fun
  | [d] => { results := [.lit (.bool true)], args := [d] }
  | _ => none }
def agentBoundsRow : OpenClaim := { program := "ytkjggglmemafgaagreat", sum := "c616ceb072850c5cbb0be2b2a3c8c4d0309fc9e07e5e01435182b356e280670b", func := "spoor/spoorlaw12.AgentBounds", spec := "agentBounds", inPlace := ["slices.overlaps[int]"], unfollowed := true, recurses := true, apart := false }
def AgentBoundsSaid : Prop := agentBoundsRow.holds Tryz.pinned (OpenSpec.ofChange agentBoundsSpec)

/-- ITS FALSE NEIGHBOUR: 'it returns false'. Refute it at one input. -/
def agentBoundsWrong : ChangeSpec := { name := "agentBounds", fn := fun _ => fun
  | [d] => { results := [.lit (.bool false)], args := [d] }
  | _ => none }
def AgentBoundsWrongFalsely : Prop := agentBoundsRow.holds Tryz.pinned (OpenSpec.ofChange agentBoundsWrong)

/-- 'spoorlaw12.AgentPlays': WHATEVER THE INPUT: true; the input reads as it did. -/
def agentPlaysSpec : ChangeSpec := { name := "agentPlays", fn := fun _ => fun
  | [d1, d2, d3] => { results := [.lit (.bool true)], args := [d1, d2, d3] }
  | _ => none }
def agentPlaysRow : OpenClaim := { program := "ytkjggglmemafgaagreat", sum := "c616ceb072850c5cbb0be2b2a3c8c4d0309fc9e07e5e01435182b356e280670b", func := "spoor/spoorlaw12.AgentPlays", spec := "agentPlays", inPlace := ["slices.overlaps[int]"], unfollowed := true, recurses := true, apart := false }
def AgentPlaysSaid : Prop := agentPlaysRow.holds Tryz.pinned (OpenSpec.ofChange agentPlaysSpec)

/-- ITS FALSE NEIGHBOUR: 'it returns false'. Refute it at one input. -/
def agentPlaysWrong : ChangeSpec := { name := "agentPlays", fn := fun _ => fun
  | [d1, d2, d3] => { results := [.lit (.bool false)], args := [d1, d2, d3] }
  | _ => none }
def AgentPlaysWrongFalsely : Prop := agentPlaysRow.holds Tryz.pinned (OpenSpec.ofChange agentPlaysWrong)

/-- 'spoorlaw12.AgentNil': WHATEVER THE INPUT: true; the input reads as it did. -/
def agentNilSpec : ChangeSpec := { name := "agentNil", fn := fun _ => fun
  | [d] => { results := [.lit (.bool true)], args := [d] }
  | _ => none }
def agentNilRow : OpenClaim := { program := "ytkjggglmemafgaagreat", sum := "c616ceb072850c5cbb0be2b2a3c8c4d0309fc9e07e5e01435182b356e280670b", func := "spoor/spoorlaw12.AgentNil", spec := "agentNil", inPlace := ["slices.overlaps[int]"], unfollowed := true, recurses := true, apart := false }
def AgentNilSaid : Prop := agentNilRow.holds Tryz.pinned (OpenSpec.ofChange agentNilSpec)

/-- ITS FALSE NEIGHBOUR: 'it returns false'. Refute it at one input. -/
def agentNilWrong : ChangeSpec := { name := "agentNil", fn := fun _ => fun
  | [d] => { results := [.lit (.bool false)], args := [d] }
  | _ => none }
def AgentNilWrongFalsely : Prop := agentNilRow.holds Tryz.pinned (OpenSpec.ofChange agentNilWrong)

/-- 'spoorlaw12.AgentTwice': WHATEVER THE INPUT: true; the input reads as it did. -/
def agentTwiceSpec : ChangeSpec := { name := "agentTwice", fn := fun _ => fun
  | [d1, d2] => { results := [.lit (.bool true)], args := [d1, d2] }
  | _ => none }
def agentTwiceRow : OpenClaim := { program := "ytkjggglmemafgaagreat", sum := "c616ceb072850c5cbb0be2b2a3c8c4d0309fc9e07e5e01435182b356e280670b", func := "spoor/spoorlaw12.AgentTwice", spec := "agentTwice", inPlace := ["slices.overlaps[int]"], unfollowed := true, recurses := true, apart := false }
def AgentTwiceSaid : Prop := agentTwiceRow.holds Tryz.pinned (OpenSpec.ofChange agentTwiceSpec)

/-- ITS FALSE NEIGHBOUR: 'it returns false'. Refute it at one input. -/
def agentTwiceWrong : ChangeSpec := { name := "agentTwice", fn := fun _ => fun
  | [d1, d2] => { results := [.lit (.bool false)], args := [d1, d2] }
  | _ => none }
def AgentTwiceWrongFalsely : Prop := agentTwiceRow.holds Tryz.pinned (OpenSpec.ofChange agentTwiceWrong)

/- THE SECOND FORM. 'bulk': how many values and letters a reading holds, each counted each time it is reached (what is shared counts as often as it is met; a slice's spare places count too). A statement '..UptoSaid' is the law's where the arguments, and the package variables that the reading takes, are together of bulk at most 1048576: NARROWER than '..Said'. Prove '..Said' where nothing that the law and all that it calls make is longer than what came in: it says more and counts as full. Else prove '..UptoSaid'. A law counts once. -/
mutual
def uptoBulk {H : Type} : DataW H → Nat
  | .lit (.string bytes) => bytes.length + 1
  | .lit _ => 1
  | .nil => 1
  | .ptr d => uptoBulk d + 1
  | .slice elems spare => uptoBulkAll elems + uptoBulkAll spare + 1
  | .agg parts => uptoBulkAll parts + 1
  | .iface _ d => uptoBulk d + 1
  | .map entries => uptoBulkEntries entries + 1
  | .held _ => 1
def uptoBulkAll {H : Type} : List (DataW H) → Nat
  | [] => 0
  | d :: r => uptoBulk d + uptoBulkAll r
def uptoBulkEntries {H : Type} : List (Lit × DataW H) → Nat
  | [] => 0
  | x :: r => uptoBulkEntry x + uptoBulkEntries r
def uptoBulkEntry {H : Type} : Lit × DataW H → Nat
  | (.string bytes, d) => bytes.length + uptoBulk d + 1
  | (_, d) => uptoBulk d + 1
 end
def uptoSmall : (H : Type) → List (DataW H) → Bool := fun _ ds => decide (uptoBulkAll ds ≤ 1048576)
def OpenSpec.upto (s : _root_.Go.ChangeSpec) : _root_.Go.OpenSpec := { _root_.Go.OpenSpec.ofChange s with cond := some uptoSmall }

/-- 'spoorlaw12.AgentFrees', WHERE WHAT IT READS IS OF BULK AT MOST 1048576: true; the input reads as it did. -/
def agentFreesUptoRow : OpenClaim := { program := "ytkjggglmemafgaagreat", sum := "c616ceb072850c5cbb0be2b2a3c8c4d0309fc9e07e5e01435182b356e280670b", func := "spoor/spoorlaw12.AgentFrees", spec := "agentFrees", inPlace := ["slices.overlaps[int]"], unfollowed := true, recurses := true, apart := false, narrowed := true }
def AgentFreesUptoSaid : Prop := agentFreesUptoRow.holds Tryz.pinned (OpenSpec.upto agentFreesSpec)

/-- 'spoorlaw12.AgentBounds', WHERE WHAT IT READS IS OF BULK AT MOST 1048576: true; the input reads as it did. -/
def agentBoundsUptoRow : OpenClaim := { program := "ytkjggglmemafgaagreat", sum := "c616ceb072850c5cbb0be2b2a3c8c4d0309fc9e07e5e01435182b356e280670b", func := "spoor/spoorlaw12.AgentBounds", spec := "agentBounds", inPlace := ["slices.overlaps[int]"], unfollowed := true, recurses := true, apart := false, narrowed := true }
def AgentBoundsUptoSaid : Prop := agentBoundsUptoRow.holds Tryz.pinned (OpenSpec.upto agentBoundsSpec)

/-- 'spoorlaw12.AgentPlays', WHERE WHAT IT READS IS OF BULK AT MOST 1048576: true; the input reads as it did. -/
def agentPlaysUptoRow : OpenClaim := { program := "ytkjggglmemafgaagreat", sum := "c616ceb072850c5cbb0be2b2a3c8c4d0309fc9e07e5e01435182b356e280670b", func := "spoor/spoorlaw12.AgentPlays", spec := "agentPlays", inPlace := ["slices.overlaps[int]"], unfollowed := true, recurses := true, apart := false, narrowed := true }
def AgentPlaysUptoSaid : Prop := agentPlaysUptoRow.holds Tryz.pinned (OpenSpec.upto agentPlaysSpec)

/-- 'spoorlaw12.AgentNil', WHERE WHAT IT READS IS OF BULK AT MOST 1048576: true; the input reads as it did. -/
def agentNilUptoRow : OpenClaim := { program := "ytkjggglmemafgaagreat", sum := "c616ceb072850c5cbb0be2b2a3c8c4d0309fc9e07e5e01435182b356e280670b", func := "spoor/spoorlaw12.AgentNil", spec := "agentNil", inPlace := ["slices.overlaps[int]"], unfollowed := true, recurses := true, apart := false, narrowed := true }
def AgentNilUptoSaid : Prop := agentNilUptoRow.holds Tryz.pinned (OpenSpec.upto agentNilSpec)

/-- 'spoorlaw12.AgentTwice', WHERE WHAT IT READS IS OF BULK AT MOST 1048576: true; the input reads as it did. -/
def agentTwiceUptoRow : OpenClaim := { program := "ytkjggglmemafgaagreat", sum := "c616ceb072850c5cbb0be2b2a3c8c4d0309fc9e07e5e01435182b356e280670b", func := "spoor/spoorlaw12.AgentTwice", spec := "agentTwice", inPlace := ["slices.overlaps[int]"], unfollowed := true, recurses := true, apart := false, narrowed := true }
def AgentTwiceUptoSaid : Prop := agentTwiceUptoRow.holds Tryz.pinned (OpenSpec.upto agentTwiceSpec)

end Rows
end Go.Proofs.YtkjggglmemafgaaGreat
