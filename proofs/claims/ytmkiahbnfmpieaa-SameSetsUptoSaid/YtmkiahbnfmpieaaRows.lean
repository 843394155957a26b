/-
  No cell of these rows narrows 'for every input' (looked for: loops, veiled, ifaces, maps, wideKeys, modest, calm, conditions, laid).
  DERIVED. THE GIVEN ROWS OF THIS SEAT. 6 by the template 'for every input the law returns true; each argument reads behind the call as it read before'; 0 by the template 'total and deterministic' (their statements: YtmkiahbnfmpieaaTotals.lean).
  GIVEN WITH THE SEED: the statements are not yours to turn. If you find one false, say at which input.
  Laid BY PROGRAM, IN A SANDBOX (cutbox-rows.mjs): the forced cells as the released guide's own fill.sh prints them over the translation 3a054d6e86b461a7… (all of the seat's roots in one cut). By AI agents, Wed Nov 11 2026. No macro, syntax, notation, axiom, sorry.
-/
import Derived.Test.YtmkiahbnfmpieaaChecked
import GoSem.Claim
import GoSem.ClaimJoined
import GoSem.ClaimMapViews
import Derived.JoinedTies
import Derived.KernelRfl
namespace Go.Proofs.Ytmkiahbnfmpieaa
/- THE CELL 'sum', in the pinned program and in every row, IS THE sha256 OF THE DUMP (.gsa) THAT YtmkiahbnfmpieaaProg.lean LOADS. Nothing in Lean hashes anything: it is a label: what it is worth is what the hold of that sum in a sandbox is worth. -/
noncomputable def Try.pinned : Pinned := { name := "ytmkiahbnfmpieaa", sum := "3a054d6e86b461a78a22cbe648ba94d0d8ad89cc544a3692f66addc2e293ece0", checked := Try.checked }
namespace Rows
def none {H : Type} : Left H := { results := [], args := [] }

/-- 'davitlaw17.SameSets': WHATEVER THE INPUT: true; the input reads as it did. -/
def sameSetsSpec : ChangeSpec := { name := "sameSets", fn := fun _ => fun
  | [d] => { results := [.lit (.bool true)], args := [d] }
  | _ => none }
def sameSetsRow : OpenClaim := { program := "ytmkiahbnfmpieaa", sum := "3a054d6e86b461a78a22cbe648ba94d0d8ad89cc544a3692f66addc2e293ece0", func := "davit/davitlaw17.SameSets", spec := "sameSets", plainKeys := false, apart := false }
def SameSetsSaid : Prop := sameSetsRow.holds Try.pinned (OpenSpec.ofChange sameSetsSpec)

/-- ITS FALSE NEIGHBOUR: 'it returns false'. Refute it at one input. -/
def sameSetsWrong : ChangeSpec := { name := "sameSets", fn := fun _ => fun
  | [d] => { results := [.lit (.bool false)], args := [d] }
  | _ => none }
def SameSetsWrongFalsely : Prop := sameSetsRow.holds Try.pinned (OpenSpec.ofChange sameSetsWrong)

/-- 'davitlaw16.FoldSets': WHATEVER THE INPUT: true; the input reads as it did. -/
def foldSetsSpec : ChangeSpec := { name := "foldSets", fn := fun _ => fun
  | [d] => { results := [.lit (.bool true)], args := [d] }
  | _ => none }
def foldSetsRow : OpenClaim := { program := "ytmkiahbnfmpieaa", sum := "3a054d6e86b461a78a22cbe648ba94d0d8ad89cc544a3692f66addc2e293ece0", func := "davit/davitlaw16.FoldSets", spec := "foldSets", plainKeys := false, apart := false }
def FoldSetsSaid : Prop := foldSetsRow.holds Try.pinned (OpenSpec.ofChange foldSetsSpec)

/-- ITS FALSE NEIGHBOUR: 'it returns false'. Refute it at one input. -/
def foldSetsWrong : ChangeSpec := { name := "foldSets", fn := fun _ => fun
  | [d] => { results := [.lit (.bool false)], args := [d] }
  | _ => none }
def FoldSetsWrongFalsely : Prop := foldSetsRow.holds Try.pinned (OpenSpec.ofChange foldSetsWrong)

/-- 'davitlaw16.FoldAll': WHATEVER THE INPUT: true; the input reads as it did. -/
def foldAllSpec : ChangeSpec := { name := "foldAll", fn := fun _ => fun
  | [d1, d2] => { results := [.lit (.bool true)], args := [d1, d2] }
  | _ => none }
def foldAllRow : OpenClaim := { program := "ytmkiahbnfmpieaa", sum := "3a054d6e86b461a78a22cbe648ba94d0d8ad89cc544a3692f66addc2e293ece0", func := "davit/davitlaw16.FoldAll", spec := "foldAll", plainKeys := false, apart := false }
def FoldAllSaid : Prop := foldAllRow.holds Try.pinned (OpenSpec.ofChange foldAllSpec)

/-- ITS FALSE NEIGHBOUR: 'it returns false'. Refute it at one input. -/
def foldAllWrong : ChangeSpec := { name := "foldAll", fn := fun _ => fun
  | [d1, d2] => { results := [.lit (.bool false)], args := [d1, d2] }
  | _ => none }
def FoldAllWrongFalsely : Prop := foldAllRow.holds Try.pinned (OpenSpec.ofChange foldAllWrong)

/-- 'davitlaw07.FlowRight': WHATEVER THE INPUT: true; the input reads as it did. -/
def flowRightSpec : ChangeSpec := { name := "flowRight", fn := fun _ => fun
  | [d1, d2] => { results := [.lit (.bool true)], args := [d1, d2] }
  | _ => none }
def flowRightRow : OpenClaim := { program := "ytmkiahbnfmpieaa", sum := "3a054d6e86b461a78a22cbe648ba94d0d8ad89cc544a3692f66addc2e293ece0", func := "davit/davitlaw07.FlowRight", spec := "flowRight", unfollowed := true, recurses := true, plainKeys := false, apart := false }
def FlowRightSaid : Prop := flowRightRow.holds Try.pinned (OpenSpec.ofChange flowRightSpec)

/-- ITS FALSE NEIGHBOUR: 'it returns false'. Refute it at one input. -/
def flowRightWrong : ChangeSpec := { name := "flowRight", fn := fun _ => fun
  | [d1, d2] => { results := [.lit (.bool false)], args := [d1, d2] }
  | _ => none }
def FlowRightWrongFalsely : Prop := flowRightRow.holds Try.pinned (OpenSpec.ofChange flowRightWrong)

/-- 'davitlaw07.FlowOrder': WHATEVER THE INPUT: true; the input reads as it did. -/
def flowOrderSpec : ChangeSpec := { name := "flowOrder", fn := fun _ => fun
  | [d] => { results := [.lit (.bool true)], args := [d] }
  | _ => none }
def flowOrderRow : OpenClaim := { program := "ytmkiahbnfmpieaa", sum := "3a054d6e86b461a78a22cbe648ba94d0d8ad89cc544a3692f66addc2e293ece0", func := "davit/davitlaw07.FlowOrder", spec := "flowOrder", unfollowed := true, recurses := true, plainKeys := false, apart := false }
def FlowOrderSaid : Prop := flowOrderRow.holds Try.pinned (OpenSpec.ofChange flowOrderSpec)

/-- ITS FALSE NEIGHBOUR: 'it returns false'. Refute it at one input. -/
def flowOrderWrong : ChangeSpec := { name := "flowOrder", fn := fun _ => fun
  | [d] => { results := [.lit (.bool false)], args := [d] }
  | _ => none }
def FlowOrderWrongFalsely : Prop := flowOrderRow.holds Try.pinned (OpenSpec.ofChange flowOrderWrong)

/-- 'davitlaw07.FlowMore': WHATEVER THE INPUT: true; the input reads as it did. -/
def flowMoreSpec : ChangeSpec := { name := "flowMore", fn := fun _ => fun
  | [d1, d2, d3] => { results := [.lit (.bool true)], args := [d1, d2, d3] }
  | _ => none }
def flowMoreRow : OpenClaim := { program := "ytmkiahbnfmpieaa", sum := "3a054d6e86b461a78a22cbe648ba94d0d8ad89cc544a3692f66addc2e293ece0", func := "davit/davitlaw07.FlowMore", spec := "flowMore", unfollowed := true, recurses := true, plainKeys := false, apart := false }
def FlowMoreSaid : Prop := flowMoreRow.holds Try.pinned (OpenSpec.ofChange flowMoreSpec)

/-- ITS FALSE NEIGHBOUR: 'it returns false'. Refute it at one input. -/
def flowMoreWrong : ChangeSpec := { name := "flowMore", fn := fun _ => fun
  | [d1, d2, d3] => { results := [.lit (.bool false)], args := [d1, d2, d3] }
  | _ => none }
def FlowMoreWrongFalsely : Prop := flowMoreRow.holds Try.pinned (OpenSpec.ofChange flowMoreWrong)

/- THE SECOND FORM. 'bulk': how many values and letters a reading holds, each counted each time it is reached (what is shared counts as often as it is met; a slice's spare places count too). A statement '..UptoSaid' is the law's where the arguments, and the package variables that the reading takes, are together of bulk at most 1048576: NARROWER than '..Said'. Prove '..Said' where nothing that the law and all that it calls make is longer than what came in: it says more and counts as full. Else prove '..UptoSaid'. A law counts once. -/
mutual
def uptoBulk {H : Type} : DataW H → Nat
  | .lit (.string bytes) => bytes.length + 1
  | .lit _ => 1
  | .nil => 1
  | .ptr d => uptoBulk d + 1
  | .slice elems spare => uptoBulkAll elems + uptoBulkAll spare + 1
  | .agg parts => uptoBulkAll parts + 1
  | .iface _ d => uptoBulk d + 1
  | .map entries => uptoBulkEntries entries + 1
  | .held _ => 1
def uptoBulkAll {H : Type} : List (DataW H) → Nat
  | [] => 0
  | d :: r => uptoBulk d + uptoBulkAll r
def uptoBulkEntries {H : Type} : List (Lit × DataW H) → Nat
  | [] => 0
  | x :: r => uptoBulkEntry x + uptoBulkEntries r
def uptoBulkEntry {H : Type} : Lit × DataW H → Nat
  | (.string bytes, d) => bytes.length + uptoBulk d + 1
  | (_, d) => uptoBulk d + 1
 end
def uptoSmall : (H : Type) → List (DataW H) → Bool := fun _ ds => decide (uptoBulkAll ds ≤ 1048576)
def OpenSpec.upto (s : _root_.Go.ChangeSpec) : _root_.Go.OpenSpec := { _root_.Go.OpenSpec.ofChange s with cond := some uptoSmall }

/-- 'davitlaw17.SameSets', WHERE WHAT IT READS IS OF BULK AT MOST 1048576: true; the input reads as it did. -/
def sameSetsUptoRow : OpenClaim := { program := "ytmkiahbnfmpieaa", sum := "3a054d6e86b461a78a22cbe648ba94d0d8ad89cc544a3692f66addc2e293ece0", func := "davit/davitlaw17.SameSets", spec := "sameSets", plainKeys := false, apart := false, narrowed := true }
def SameSetsUptoSaid : Prop := sameSetsUptoRow.holds Try.pinned (OpenSpec.upto sameSetsSpec)

/-- 'davitlaw16.FoldSets', WHERE WHAT IT READS IS OF BULK AT MOST 1048576: true; the input reads as it did. -/
def foldSetsUptoRow : OpenClaim := { program := "ytmkiahbnfmpieaa", sum := "3a054d6e86b461a78a22cbe648ba94d0d8ad89cc544a3692f66addc2e293ece0", func := "davit/davitlaw16.FoldSets", spec := "foldSets", plainKeys := false, apart := false, narrowed := true }
def FoldSetsUptoSaid : Prop := foldSetsUptoRow.holds Try.pinned (OpenSpec.upto foldSetsSpec)

/-- 'davitlaw16.FoldAll', WHERE WHAT IT READS IS OF BULK AT MOST 1048576: true; the input reads as it did. -/
def foldAllUptoRow : OpenClaim := { program := "ytmkiahbnfmpieaa", sum := "3a054d6e86b461a78a22cbe648ba94d0d8ad89cc544a3692f66addc2e293ece0", func := "davit/davitlaw16.FoldAll", spec := "foldAll", plainKeys := false, apart := false, narrowed := true }
def FoldAllUptoSaid : Prop := foldAllUptoRow.holds Try.pinned (OpenSpec.upto foldAllSpec)

/-- 'davitlaw07.FlowRight', WHERE WHAT IT READS IS OF BULK AT MOST 1048576: true; the input reads as it did. -/
def flowRightUptoRow : OpenClaim := { program := "ytmkiahbnfmpieaa", sum := "3a054d6e86b461a78a22cbe648ba94d0d8ad89cc544a3692f66addc2e293ece0", func := "davit/davitlaw07.FlowRight", spec := "flowRight", unfollowed := true, recurses := true, plainKeys := false, apart := false, narrowed := true }
def FlowRightUptoSaid : Prop := flowRightUptoRow.holds Try.pinned (OpenSpec.upto flowRightSpec)

/-- 'davitlaw07.FlowOrder', WHERE WHAT IT READS IS OF BULK AT MOST 1048576: true; the input reads as it did. -/
def flowOrderUptoRow : OpenClaim := { program := "ytmkiahbnfmpieaa", sum := "3a054d6e86b461a78a22cbe648ba94d0d8ad89cc544a3692f66addc2e293ece0", func := "davit/davitlaw07.FlowOrder", spec := "flowOrder", unfollowed := true, recurses := true, plainKeys := false, apart := false, narrowed := true }
def FlowOrderUptoSaid : Prop := flowOrderUptoRow.holds Try.pinned (OpenSpec.upto flowOrderSpec)

/-- 'davitlaw07.FlowMore', WHERE WHAT IT READS IS OF BULK AT MOST 1048576: true; the input reads as it did. -/
def flowMoreUptoRow : OpenClaim := { program := "ytmkiahbnfmpieaa", sum := "3a054d6e86b461a78a22cbe648ba94d0d8ad89cc544a3692f66addc2e293ece0", func := "davit/davitlaw07.FlowMore", spec := "flowMore", unfollowed := true, recurses := true, plainKeys := false, apart := false, narrowed := true }
def FlowMoreUptoSaid : Prop := flowMoreUptoRow.holds Try.pinned (OpenSpec.upto flowMoreSpec)

end Rows
end Go.Proofs.Ytmkiahbnfmpieaa
