/-
  No cell of these rows narrows 'for every input' (looked for: loops, veiled, ifaces, maps, wideKeys, modest, calm, conditions, laid).
  DERIVED. THE GIVEN ROWS OF THIS SEAT. 9 by the template 'for every input the law returns true; each argument reads behind the call as it read before'; 0 by the template 'total and deterministic' (their statements: YtoelbgjpmpoolaaGreatTotals.lean).
  GIVEN WITH THE SEED: the statements are not yours to turn. If you find one false, say at which input.
  Laid BY PROGRAM, IN A SANDBOX (cutbox-rows.mjs): the forced cells as the released guide's own fill.sh prints them over the translation e01358e155db320f… (all of the seat's roots in one cut). By AI agents, Wed Nov 11 2026. No macro, syntax, notation, axiom, sorry.
-/
import Derived.Test.YtoelbgjpmpoolaaGreatChecked
import GoSem.Claim
import GoSem.ClaimJoined
import GoSem.ClaimMapViews
import Derived.JoinedTies
import Derived.KernelRfl
namespace Go.Proofs.YtoelbgjpmpoolaaGreat
/- THE CELL 'sum', in the pinned program and in every row, IS THE sha256 OF THE DUMP (.gsa) THAT YtoelbgjpmpoolaaGreatProg.lean LOADS. Nothing in Lean hashes anything: it is a label: what it is worth is what the hold of that sum in a sandbox is worth. -/
noncomputable def Tryz.pinned : Pinned := { name := "ytoelbgjpmpoolaagreat", sum := "e01358e155db320fff4afb5a99267974b0f7d394f1dae91149db07f9f95d84c9", checked := Tryz.checked }
namespace Rows
def none {H : Type} : Left H := { results := [], args := [] }

/-- 'davitlaw14.CalmKeeps': WHATEVER THE INPUT: true; the input reads as it did. -/
def calmKeepsSpec : ChangeSpec := { name := "calmKeeps", fn := fun _ => fun
  | [d1, d2, d3] => { results := [.lit (.bool true)], args := [d1, d2, d3] }
  | _ => none }
def calmKeepsRow : OpenClaim := { program := "ytoelbgjpmpoolaagreat", sum := "e01358e155db320fff4afb5a99267974b0f7d394f1dae91149db07f9f95d84c9", func := "davit/davitlaw14.CalmKeeps", spec := "calmKeeps", unfollowed := true, recurses := true, plainKeys := false, apart := false }
def CalmKeepsSaid : Prop := calmKeepsRow.holds Tryz.pinned (OpenSpec.ofChange calmKeepsSpec)

/-- ITS FALSE NEIGHBOUR: 'it returns false'. Refute it at one input. -/
def calmKeepsWrong : ChangeSpec := { name := "calmKeeps", fn := fun _ => fun
  | [d1, d2, d3] => { results := [.lit (.bool false)], args := [d1, d2, d3] }
  | _ => none }
def CalmKeepsWrongFalsely : Prop := calmKeepsRow.holds Tryz.pinned (OpenSpec.ofChange calmKeepsWrong)

/-- 'davitlaw23.InlineKeeps': WHATEVER THE INPUT: true; the input reads as it did. -/
def inlineKeepsSpec : ChangeSpec := { name := "inlineKeeps", fn := fun _ => fun
  | [d1, d2, d3] => { results := [.lit (.bool true)], args := [d1, d2, d3] }
  | _ => none }
def inlineKeepsRow : OpenClaim := { program := "ytoelbgjpmpoolaagreat", sum := "e01358e155db320fff4afb5a99267974b0f7d394f1dae91149db07f9f95d84c9", func := "davit/davitlaw23.InlineKeeps", spec := "inlineKeeps", unfollowed := true, recurses := true, plainKeys := false, apart := false }
def InlineKeepsSaid : Prop := inlineKeepsRow.holds Tryz.pinned (OpenSpec.ofChange inlineKeepsSpec)

/-- ITS FALSE NEIGHBOUR: 'it returns false'. Refute it at one input. -/
def inlineKeepsWrong : ChangeSpec := { name := "inlineKeeps", fn := fun _ => fun
  | [d1, d2, d3] => { results := [.lit (.bool false)], args := [d1, d2, d3] }
  | _ => none }
def InlineKeepsWrongFalsely : Prop := inlineKeepsRow.holds Tryz.pinned (OpenSpec.ofChange inlineKeepsWrong)

/-- 'davitlaw06.MachRuns': WHATEVER THE INPUT: true; the input reads as it did. -/
def machRunsSpec : ChangeSpec := { name := "machRuns", fn := fun _ => fun
  | [d1, d2, d3] => { results := [.lit (.bool true)], args := [d1, d2, d3] }
  | _ => none }
def machRunsRow : OpenClaim := { program := "ytoelbgjpmpoolaagreat", sum := "e01358e155db320fff4afb5a99267974b0f7d394f1dae91149db07f9f95d84c9", func := "davit/davitlaw06.MachRuns", spec := "machRuns", unfollowed := true, recurses := true, plainKeys := false, apart := false }
def MachRunsSaid : Prop := machRunsRow.holds Tryz.pinned (OpenSpec.ofChange machRunsSpec)

/-- ITS FALSE NEIGHBOUR: 'it returns false'. Refute it at one input. -/
def machRunsWrong : ChangeSpec := { name := "machRuns", fn := fun _ => fun
  | [d1, d2, d3] => { results := [.lit (.bool false)], args := [d1, d2, d3] }
  | _ => none }
def MachRunsWrongFalsely : Prop := machRunsRow.holds Tryz.pinned (OpenSpec.ofChange machRunsWrong)

/-- 'davitlaw12.ThrowsSound': WHATEVER THE INPUT: true; the input reads as it did. -/
def throwsSoundSpec : ChangeSpec := { name := "throwsSound", fn := fun _ => fun
  | [d1, d2] => { results := [.lit (.bool true)], args := [d1, d2] }
  | _ => none }
def throwsSoundRow : OpenClaim := { program := "ytoelbgjpmpoolaagreat", sum := "e01358e155db320fff4afb5a99267974b0f7d394f1dae91149db07f9f95d84c9", func := "davit/davitlaw12.ThrowsSound", spec := "throwsSound", unfollowed := true, recurses := true, plainKeys := false, apart := false }
def ThrowsSoundSaid : Prop := throwsSoundRow.holds Tryz.pinned (OpenSpec.ofChange throwsSoundSpec)

/-- ITS FALSE NEIGHBOUR: 'it returns false'. Refute it at one input. -/
def throwsSoundWrong : ChangeSpec := { name := "throwsSound", fn := fun _ => fun
  | [d1, d2] => { results := [.lit (.bool false)], args := [d1, d2] }
  | _ => none }
def ThrowsSoundWrongFalsely : Prop := throwsSoundRow.holds Tryz.pinned (OpenSpec.ofChange throwsSoundWrong)

/-- 'davitlaw17.SameKeeps': WHATEVER THE INPUT: true; the input reads as it did. -/
def sameKeepsSpec : ChangeSpec := { name := "sameKeeps", fn := fun _ => fun
  | [d1, d2, d3] => { results := [.lit (.bool true)], args := [d1, d2, d3] }
  | _ => none }
def sameKeepsRow : OpenClaim := { program := "ytoelbgjpmpoolaagreat", sum := "e01358e155db320fff4afb5a99267974b0f7d394f1dae91149db07f9f95d84c9", func := "davit/davitlaw17.SameKeeps", spec := "sameKeeps", unfollowed := true, recurses := true, plainKeys := false, apart := false }
def SameKeepsSaid : Prop := sameKeepsRow.holds Tryz.pinned (OpenSpec.ofChange sameKeepsSpec)

/-- ITS FALSE NEIGHBOUR: 'it returns false'. Refute it at one input. -/
def sameKeepsWrong : ChangeSpec := { name := "sameKeeps", fn := fun _ => fun
  | [d1, d2, d3] => { results := [.lit (.bool false)], args := [d1, d2, d3] }
  | _ => none }
def SameKeepsWrongFalsely : Prop := sameKeepsRow.holds Tryz.pinned (OpenSpec.ofChange sameKeepsWrong)

/-- 'davitlaw16.FoldKeeps': WHATEVER THE INPUT: true; the input reads as it did. -/
def foldKeepsSpec : ChangeSpec := { name := "foldKeeps", fn := fun _ => fun
  | [d1, d2, d3] => { results := [.lit (.bool true)], args := [d1, d2, d3] }
  | _ => none }
def foldKeepsRow : OpenClaim := { program := "ytoelbgjpmpoolaagreat", sum := "e01358e155db320fff4afb5a99267974b0f7d394f1dae91149db07f9f95d84c9", func := "davit/davitlaw16.FoldKeeps", spec := "foldKeeps", unfollowed := true, recurses := true, plainKeys := false, apart := false }
def FoldKeepsSaid : Prop := foldKeepsRow.holds Tryz.pinned (OpenSpec.ofChange foldKeepsSpec)

/-- ITS FALSE NEIGHBOUR: 'it returns false'. Refute it at one input. -/
def foldKeepsWrong : ChangeSpec := { name := "foldKeeps", fn := fun _ => fun
  | [d1, d2, d3] => { results := [.lit (.bool false)], args := [d1, d2, d3] }
  | _ => none }
def FoldKeepsWrongFalsely : Prop := foldKeepsRow.holds Tryz.pinned (OpenSpec.ofChange foldKeepsWrong)

/-- 'davitlaw07.FlowReaches': WHATEVER THE INPUT: true; the input reads as it did. -/
def flowReachesSpec : ChangeSpec := { name := "flowReaches", fn := fun _ => fun
  | [d1, d2, d3] => { results := [.lit (.bool true)], args := [d1, d2, d3] }
  | _ => none }
def flowReachesRow : OpenClaim := { program := "ytoelbgjpmpoolaagreat", sum := "e01358e155db320fff4afb5a99267974b0f7d394f1dae91149db07f9f95d84c9", func := "davit/davitlaw07.FlowReaches", spec := "flowReaches", unfollowed := true, recurses := true, plainKeys := false, apart := false }
def FlowReachesSaid : Prop := flowReachesRow.holds Tryz.pinned (OpenSpec.ofChange flowReachesSpec)

/-- ITS FALSE NEIGHBOUR: 'it returns false'. Refute it at one input. -/
def flowReachesWrong : ChangeSpec := { name := "flowReaches", fn := fun _ => fun
  | [d1, d2, d3] => { results := [.lit (.bool false)], args := [d1, d2, d3] }
  | _ => none }
def FlowReachesWrongFalsely : Prop := flowReachesRow.holds Tryz.pinned (OpenSpec.ofChange flowReachesWrong)

/-- 'davitlaw10.LiveIdle': WHATEVER THE INPUT: true; the input reads as it did. -/
def liveIdleSpec : ChangeSpec := { name := "liveIdle", fn := fun _ => fun
  | [d1, d2, d3, d4, d5] => { results := [.lit (.bool true)], args := [d1, d2, d3, d4, d5] }
  | _ => none }
def liveIdleRow : OpenClaim := { program := "ytoelbgjpmpoolaagreat", sum := "e01358e155db320fff4afb5a99267974b0f7d394f1dae91149db07f9f95d84c9", func := "davit/davitlaw10.LiveIdle", spec := "liveIdle", unfollowed := true, recurses := true, plainKeys := false, apart := false }
def LiveIdleSaid : Prop := liveIdleRow.holds Tryz.pinned (OpenSpec.ofChange liveIdleSpec)

/-- ITS FALSE NEIGHBOUR: 'it returns false'. Refute it at one input. -/
def liveIdleWrong : ChangeSpec := { name := "liveIdle", fn := fun _ => fun
  | [d1, d2, d3, d4, d5] => { results := [.lit (.bool false)], args := [d1, d2, d3, d4, d5] }
  | _ => none }
def LiveIdleWrongFalsely : Prop := liveIdleRow.holds Tryz.pinned (OpenSpec.ofChange liveIdleWrong)

/-- 'davitlaw13.DeadKeeps': WHATEVER THE INPUT: true; the input reads as it did. -/
def deadKeepsSpec : ChangeSpec := { name := "deadKeeps", fn := fun _ => fun
  | [d1, d2, d3] => { results := [.lit (.bool true)], args := [d1, d2, d3] }
  | _ => none }
def deadKeepsRow : OpenClaim := { program := "ytoelbgjpmpoolaagreat", sum := "e01358e155db320fff4afb5a99267974b0f7d394f1dae91149db07f9f95d84c9", func := "davit/davitlaw13.DeadKeeps", spec := "deadKeeps", unfollowed := true, recurses := true, plainKeys := false, apart := false }
def DeadKeepsSaid : Prop := deadKeepsRow.holds Tryz.pinned (OpenSpec.ofChange deadKeepsSpec)

/-- ITS FALSE NEIGHBOUR: 'it returns false'. Refute it at one input. -/
def deadKeepsWrong : ChangeSpec := { name := "deadKeeps", fn := fun _ => fun
  | [d1, d2, d3] => { results := [.lit (.bool false)], args := [d1, d2, d3] }
  | _ => none }
def DeadKeepsWrongFalsely : Prop := deadKeepsRow.holds Tryz.pinned (OpenSpec.ofChange deadKeepsWrong)

/- THE SECOND FORM. 'bulk': how many values and letters a reading holds, each counted each time it is reached (what is shared counts as often as it is met; a slice's spare places count too). A statement '..UptoSaid' is the law's where the arguments, and the package variables that the reading takes, are together of bulk at most 1048576: NARROWER than '..Said'. Prove '..Said' where nothing that the law and all that it calls make is longer than what came in: it says more and counts as full. Else prove '..UptoSaid'. A law counts once. -/
mutual
def uptoBulk {H : Type} : DataW H → Nat
  | .lit (.string bytes) => bytes.length + 1
  | .lit _ => 1
  | .nil => 1
  | .ptr d => uptoBulk d + 1
  | .slice elems spare => uptoBulkAll elems + uptoBulkAll spare + 1
  | .agg parts => uptoBulkAll parts + 1
  | .iface _ d => uptoBulk d + 1
  | .map entries => uptoBulkEntries entries + 1
  | .held _ => 1
def uptoBulkAll {H : Type} : List (DataW H) → Nat
  | [] => 0
  | d :: r => uptoBulk d + uptoBulkAll r
def uptoBulkEntries {H : Type} : List (Lit × DataW H) → Nat
  | [] => 0
  | x :: r => uptoBulkEntry x + uptoBulkEntries r
def uptoBulkEntry {H : Type} : Lit × DataW H → Nat
  | (.string bytes, d) => bytes.length + uptoBulk d + 1
  | (_, d) => uptoBulk d + 1
 end
def uptoSmall : (H : Type) → List (DataW H) → Bool := fun _ ds => decide (uptoBulkAll ds ≤ 1048576)
def OpenSpec.upto (s : _root_.Go.ChangeSpec) : _root_.Go.OpenSpec := { _root_.Go.OpenSpec.ofChange s with cond := some uptoSmall }

/-- 'davitlaw14.CalmKeeps', WHERE WHAT IT READS IS OF BULK AT MOST 1048576: true; the input reads as it did. -/
def calmKeepsUptoRow : OpenClaim := { program := "ytoelbgjpmpoolaagreat", sum := "e01358e155db320fff4afb5a99267974b0f7d394f1dae91149db07f9f95d84c9", func := "davit/davitlaw14.CalmKeeps", spec := "calmKeeps", unfollowed := true, recurses := true, plainKeys := false, apart := false, narrowed := true }
def CalmKeepsUptoSaid : Prop := calmKeepsUptoRow.holds Tryz.pinned (OpenSpec.upto calmKeepsSpec)

/-- 'davitlaw23.InlineKeeps', WHERE WHAT IT READS IS OF BULK AT MOST 1048576: true; the input reads as it did. -/
def inlineKeepsUptoRow : OpenClaim := { program := "ytoelbgjpmpoolaagreat", sum := "e01358e155db320fff4afb5a99267974b0f7d394f1dae91149db07f9f95d84c9", func := "davit/davitlaw23.InlineKeeps", spec := "inlineKeeps", unfollowed := true, recurses := true, plainKeys := false, apart := false, narrowed := true }
def InlineKeepsUptoSaid : Prop := inlineKeepsUptoRow.holds Tryz.pinned (OpenSpec.upto inlineKeepsSpec)

/-- 'davitlaw06.MachRuns', WHERE WHAT IT READS IS OF BULK AT MOST 1048576: true; the input reads as it did. -/
def machRunsUptoRow : OpenClaim := { program := "ytoelbgjpmpoolaagreat", sum := "e01358e155db320fff4afb5a99267974b0f7d394f1dae91149db07f9f95d84c9", func := "davit/davitlaw06.MachRuns", spec := "machRuns", unfollowed := true, recurses := true, plainKeys := false, apart := false, narrowed := true }
def MachRunsUptoSaid : Prop := machRunsUptoRow.holds Tryz.pinned (OpenSpec.upto machRunsSpec)

/-- 'davitlaw12.ThrowsSound', WHERE WHAT IT READS IS OF BULK AT MOST 1048576: true; the input reads as it did. -/
def throwsSoundUptoRow : OpenClaim := { program := "ytoelbgjpmpoolaagreat", sum := "e01358e155db320fff4afb5a99267974b0f7d394f1dae91149db07f9f95d84c9", func := "davit/davitlaw12.ThrowsSound", spec := "throwsSound", unfollowed := true, recurses := true, plainKeys := false, apart := false, narrowed := true }
def ThrowsSoundUptoSaid : Prop := throwsSoundUptoRow.holds Tryz.pinned (OpenSpec.upto throwsSoundSpec)

/-- 'davitlaw17.SameKeeps', WHERE WHAT IT READS IS OF BULK AT MOST 1048576: true; the input reads as it did. -/
def sameKeepsUptoRow : OpenClaim := { program := "ytoelbgjpmpoolaagreat", sum := "e01358e155db320fff4afb5a99267974b0f7d394f1dae91149db07f9f95d84c9", func := "davit/davitlaw17.SameKeeps", spec := "sameKeeps", unfollowed := true, recurses := true, plainKeys := false, apart := false, narrowed := true }
def SameKeepsUptoSaid : Prop := sameKeepsUptoRow.holds Tryz.pinned (OpenSpec.upto sameKeepsSpec)

/-- 'davitlaw16.FoldKeeps', WHERE WHAT IT READS IS OF BULK AT MOST 1048576: true; the input reads as it did. -/
def foldKeepsUptoRow : OpenClaim := { program := "ytoelbgjpmpoolaagreat", sum := "e01358e155db320fff4afb5a99267974b0f7d394f1dae91149db07f9f95d84c9", func := "davit/davitlaw16.FoldKeeps", spec := "foldKeeps", unfollowed := true, recurses := true, plainKeys := false, apart := false, narrowed := true }
def FoldKeepsUptoSaid : Prop := foldKeepsUptoRow.holds Tryz.pinned (OpenSpec.upto foldKeepsSpec)

/-- 'davitlaw07.FlowReaches', WHERE WHAT IT READS IS OF BULK AT MOST 1048576: true; the input reads as it did. -/
def flowReachesUptoRow : OpenClaim := { program := "ytoelbgjpmpoolaagreat", sum := "e01358e155db320fff4afb5a99267974b0f7d394f1dae91149db07f9f95d84c9", func := "davit/davitlaw07.FlowReaches", spec := "flowReaches", unfollowed := true, recurses := true, plainKeys := false, apart := false, narrowed := true }
def FlowReachesUptoSaid : Prop := flowReachesUptoRow.holds Tryz.pinned (OpenSpec.upto flowReachesSpec)

/-- 'davitlaw10.LiveIdle', WHERE WHAT IT READS IS OF BULK AT MOST 1048576: true; the input reads as it did. -/
def liveIdleUptoRow : OpenClaim := { program := "ytoelbgjpmpoolaagreat", sum := "e01358e155db320fff4afb5a99267974b0f7d394f1dae91149db07f9f95d84c9", func := "davit/davitlaw10.LiveIdle", spec := "liveIdle", unfollowed := true, recurses := true, plainKeys := false, apart := false, narrowed := true }
def LiveIdleUptoSaid : Prop := liveIdleUptoRow.holds Tryz.pinned (OpenSpec.upto liveIdleSpec)

/-- 'davitlaw13.DeadKeeps', WHERE WHAT IT READS IS OF BULK AT MOST 1048576: true; the input reads as it did. -/
def deadKeepsUptoRow : OpenClaim := { program := "ytoelbgjpmpoolaagreat", sum := "e01358e155db320fff4afb5a99267974b0f7d394f1dae91149db07f9f95d84c9", func := "davit/davitlaw13.DeadKeeps", spec := "deadKeeps", unfollowed := true, recurses := true, plainKeys := false, apart := false, narrowed := true }
def DeadKeepsUptoSaid : Prop := deadKeepsUptoRow.holds Tryz.pinned (OpenSpec.upto deadKeepsSpec)

end Rows
end Go.Proofs.YtoelbgjpmpoolaaGreat
