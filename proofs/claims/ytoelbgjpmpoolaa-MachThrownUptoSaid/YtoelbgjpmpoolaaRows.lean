/-
  No cell of these rows narrows 'for every input' (looked for: loops, veiled, ifaces, maps, wideKeys, modest, calm, conditions, laid).
  DERIVED. THE GIVEN ROWS OF THIS SEAT. 3 by the template 'for every input the law returns true; each argument reads behind the call as it read before'; 0 by the template 'total and deterministic' (their statements: YtoelbgjpmpoolaaTotals.lean).
  GIVEN WITH THE SEED: the statements are not yours to turn. If you find one false, say at which input.
  Laid BY PROGRAM, IN A SANDBOX (cutbox-rows.mjs): the forced cells as the released guide's own fill.sh prints them over the translation 50ce944e7496bbf2… (all of the seat's roots in one cut). By AI agents, Wed Nov 11 2026. No macro, syntax, notation, axiom, sorry.
-/
import Derived.Test.YtoelbgjpmpoolaaChecked
import GoSem.Claim
import GoSem.ClaimJoined
import GoSem.ClaimMapViews
import Derived.JoinedTies
import Derived.KernelRfl
namespace Go.Proofs.Ytoelbgjpmpoolaa
/- THE CELL 'sum', in the pinned program and in every row, IS THE sha256 OF THE DUMP (.gsa) THAT YtoelbgjpmpoolaaProg.lean LOADS. Nothing in Lean hashes anything: it is a label: what it is worth is what the hold of that sum in a sandbox is worth. -/
noncomputable def Try.pinned : Pinned := { name := "ytoelbgjpmpoolaa", sum := "50ce944e7496bbf235d620f276e4bd9172cc6d6fc3fa53d10e17ceb32517556b", checked := Try.checked }
namespace Rows
def none {H : Type} : Left H := { results := [], args := [] }

/-- 'davitlaw06.MachGoes': WHATEVER THE INPUT: true; the input reads as it did. -/
def machGoesSpec : ChangeSpec := { name := "machGoes", fn := fun _ => fun
  | [d1, d2, d3, d4] => { results := [.lit (.bool true)], args := [d1, d2, d3, d4] }
  | _ => none }
def machGoesRow : OpenClaim := { program := "ytoelbgjpmpoolaa", sum := "50ce944e7496bbf235d620f276e4bd9172cc6d6fc3fa53d10e17ceb32517556b", func := "davit/davitlaw06.MachGoes", spec := "machGoes", unfollowed := true, recurses := true, apart := false }
def MachGoesSaid : Prop := machGoesRow.holds Try.pinned (OpenSpec.ofChange machGoesSpec)

/-- ITS FALSE NEIGHBOUR: 'it returns false'. Refute it at one input. -/
def machGoesWrong : ChangeSpec := { name := "machGoes", fn := fun _ => fun
  | [d1, d2, d3, d4] => { results := [.lit (.bool false)], args := [d1, d2, d3, d4] }
  | _ => none }
def MachGoesWrongFalsely : Prop := machGoesRow.holds Try.pinned (OpenSpec.ofChange machGoesWrong)

/-- 'davitlaw06.MachMore': WHATEVER THE INPUT: true; the input reads as it did. -/
def machMoreSpec : ChangeSpec := { name := "machMore", fn := fun _ => fun
  | [d1, d2, d3, d4] => { results := [.lit (.bool true)], args := [d1, d2, d3, d4] }
  | _ => none }
def machMoreRow : OpenClaim := { program := "ytoelbgjpmpoolaa", sum := "50ce944e7496bbf235d620f276e4bd9172cc6d6fc3fa53d10e17ceb32517556b", func := "davit/davitlaw06.MachMore", spec := "machMore", unfollowed := true, recurses := true, apart := false }
def MachMoreSaid : Prop := machMoreRow.holds Try.pinned (OpenSpec.ofChange machMoreSpec)

/-- ITS FALSE NEIGHBOUR: 'it returns false'. Refute it at one input. -/
def machMoreWrong : ChangeSpec := { name := "machMore", fn := fun _ => fun
  | [d1, d2, d3, d4] => { results := [.lit (.bool false)], args := [d1, d2, d3, d4] }
  | _ => none }
def MachMoreWrongFalsely : Prop := machMoreRow.holds Try.pinned (OpenSpec.ofChange machMoreWrong)

/-- 'davitlaw06.MachThrown': WHATEVER THE INPUT: true; the input reads as it did. -/
def machThrownSpec : ChangeSpec := { name := "machThrown", fn := fun _ => fun
  | [d1, d2, d3] => { results := [.lit (.bool true)], args := [d1, d2, d3] }
  | _ => none }
def machThrownRow : OpenClaim := { program := "ytoelbgjpmpoolaa", sum := "50ce944e7496bbf235d620f276e4bd9172cc6d6fc3fa53d10e17ceb32517556b", func := "davit/davitlaw06.MachThrown", spec := "machThrown", unfollowed := true, recurses := true, apart := false }
def MachThrownSaid : Prop := machThrownRow.holds Try.pinned (OpenSpec.ofChange machThrownSpec)

/-- ITS FALSE NEIGHBOUR: 'it returns false'. Refute it at one input. -/
def machThrownWrong : ChangeSpec := { name := "machThrown", fn := fun _ => fun
  | [d1, d2, d3] => { results := [.lit (.bool false)], args := [d1, d2, d3] }
  | _ => none }
def MachThrownWrongFalsely : Prop := machThrownRow.holds Try.pinned (OpenSpec.ofChange machThrownWrong)

/- THE SECOND FORM. 'bulk': how many values and letters a reading holds, each counted each time it is reached (what is shared counts as often as it is met; a slice's spare places count too). A statement '..UptoSaid' is the law's where the arguments, and the package variables that the reading takes, are together of bulk at most 1048576: NARROWER than '..Said'. Prove '..Said' where nothing that the law and all that it calls make is longer than what came in: it says more and counts as full. Else prove '..UptoSaid'. A law counts once. -/
mutual
def uptoBulk {H : Type} : DataW H → Nat
  | .lit (.string bytes) => bytes.length + 1
  | .lit _ => 1
  | .nil => 1
  | .ptr d => uptoBulk d + 1
  | .slice elems spare => uptoBulkAll elems + uptoBulkAll spare + 1
  | .agg parts => uptoBulkAll parts + 1
  | .iface _ d => uptoBulk d + 1
  | .map entries => uptoBulkEntries entries + 1
  | .held _ => 1
def uptoBulkAll {H : Type} : List (DataW H) → Nat
  | [] => 0
  | d :: r => uptoBulk d + uptoBulkAll r
def uptoBulkEntries {H : Type} : List (Lit × DataW H) → Nat
  | [] => 0
  | x :: r => uptoBulkEntry x + uptoBulkEntries r
def uptoBulkEntry {H : Type} : Lit × DataW H → Nat
  | (.string bytes, d) => bytes.length + uptoBulk d + 1
  | (_, d) => uptoBulk d + 1
 end
def uptoSmall : (H : Type) → List (DataW H) → Bool := fun _ ds => decide (uptoBulkAll ds ≤ 1048576)
def OpenSpec.upto (s : _root_.Go.ChangeSpec) : _root_.Go.OpenSpec := { _root_.Go.OpenSpec.ofChange s with cond := some uptoSmall }

/-- 'davitlaw06.MachGoes', WHERE WHAT IT READS IS OF BULK AT MOST 1048576: true; the input reads as it did. -/
def machGoesUptoRow : OpenClaim := { program := "ytoelbgjpmpoolaa", sum := "50ce944e7496bbf235d620f276e4bd9172cc6d6fc3fa53d10e17ceb32517556b", func := "davit/davitlaw06.MachGoes", spec := "machGoes", unfollowed := true, recurses := true, apart := false, narrowed := true }
def MachGoesUptoSaid : Prop := machGoesUptoRow.holds Try.pinned (OpenSpec.upto machGoesSpec)

/-- 'davitlaw06.MachMore', WHERE WHAT IT READS IS OF BULK AT MOST 1048576: true; the input reads as it did. -/
def machMoreUptoRow : OpenClaim := { program := "ytoelbgjpmpoolaa", sum := "50ce944e7496bbf235d620f276e4bd9172cc6d6fc3fa53d10e17ceb32517556b", func := "davit/davitlaw06.MachMore", spec := "machMore", unfollowed := true, recurses := true, apart := false, narrowed := true }
def MachMoreUptoSaid : Prop := machMoreUptoRow.holds Try.pinned (OpenSpec.upto machMoreSpec)

/-- 'davitlaw06.MachThrown', WHERE WHAT IT READS IS OF BULK AT MOST 1048576: true; the input reads as it did. -/
def machThrownUptoRow : OpenClaim := { program := "ytoelbgjpmpoolaa", sum := "50ce944e7496bbf235d620f276e4bd9172cc6d6fc3fa53d10e17ceb32517556b", func := "davit/davitlaw06.MachThrown", spec := "machThrown", unfollowed := true, recurses := true, apart := false, narrowed := true }
def MachThrownUptoSaid : Prop := machThrownUptoRow.holds Try.pinned (OpenSpec.upto machThrownSpec)

end Rows
end Go.Proofs.Ytoelbgjpmpoolaa
