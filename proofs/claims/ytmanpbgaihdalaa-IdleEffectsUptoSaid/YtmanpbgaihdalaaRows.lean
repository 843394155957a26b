/-
  No cell of these rows narrows 'for every input' (looked for: loops, veiled, ifaces, maps, wideKeys, modest, calm, conditions, laid).
  DERIVED. THE GIVEN ROWS OF THIS SEAT. 12 by the template 'for every input the law returns true; each argument reads behind the call as it read before'; 0 by the template 'total and deterministic' (their statements: YtmanpbgaihdalaaTotals.lean).
  GIVEN WITH THE SEED: the statements are not yours to turn. If you find one false, say at which input.
  Laid BY PROGRAM, IN A SANDBOX (cutbox-rows.mjs): the forced cells as the released guide's own fill.sh prints them over the translation 8412d65dd87b8b9f… (all of the seat's roots in one cut). By AI agents, Wed Nov 11 2026. No macro, syntax, notation, axiom, sorry.
-/
import Derived.Test.YtmanpbgaihdalaaChecked
import GoSem.Claim
import GoSem.ClaimJoined
import GoSem.ClaimMapViews
import Derived.JoinedTies
import Derived.KernelRfl
namespace Go.Proofs.Ytmanpbgaihdalaa
/- THE CELL 'sum', in the pinned program and in every row, IS THE sha256 OF THE DUMP (.gsa) THAT YtmanpbgaihdalaaProg.lean LOADS. Nothing in Lean hashes anything: it is a label: what it is worth is what the hold of that sum in a sandbox is worth. -/
noncomputable def Try.pinned : Pinned := { name := "ytmanpbgaihdalaa", sum := "8412d65dd87b8b9f1610113ed77c8458d237ce11961830b58a3a53d172900468", checked := Try.checked }
namespace Rows
def none {H : Type} : Left H := { results := [], args := [] }

/-- 'davitlaw12.ThrowsRight': WHATEVER THE INPUT: true; the input reads as it did. -/
def throwsRightSpec : ChangeSpec := { name := "throwsRight", fn := fun _ => fun
  | [d] => { results := [.lit (.bool true)], args := [d] }
  | _ => none }
def throwsRightRow : OpenClaim := { program := "ytmanpbgaihdalaa", sum := "8412d65dd87b8b9f1610113ed77c8458d237ce11961830b58a3a53d172900468", func := "davit/davitlaw12.ThrowsRight", spec := "throwsRight", unfollowed := true, recurses := true, plainKeys := false, apart := false }
def ThrowsRightSaid : Prop := throwsRightRow.holds Try.pinned (OpenSpec.ofChange throwsRightSpec)

/-- ITS FALSE NEIGHBOUR: 'it returns false'. Refute it at one input. -/
def throwsRightWrong : ChangeSpec := { name := "throwsRight", fn := fun _ => fun
  | [d] => { results := [.lit (.bool false)], args := [d] }
  | _ => none }
def ThrowsRightWrongFalsely : Prop := throwsRightRow.holds Try.pinned (OpenSpec.ofChange throwsRightWrong)

/-- 'davitlaw12.ThrowsMore': WHATEVER THE INPUT: true; the input reads as it did. -/
def throwsMoreSpec : ChangeSpec := { name := "throwsMore", fn := fun _ => fun
  | [d1, d2] => { results := [.lit (.bool true)], args := [d1, d2] }
  | _ => none }
def throwsMoreRow : OpenClaim := { program := "ytmanpbgaihdalaa", sum := "8412d65dd87b8b9f1610113ed77c8458d237ce11961830b58a3a53d172900468", func := "davit/davitlaw12.ThrowsMore", spec := "throwsMore", unfollowed := true, recurses := true, plainKeys := false, apart := false }
def ThrowsMoreSaid : Prop := throwsMoreRow.holds Try.pinned (OpenSpec.ofChange throwsMoreSpec)

/-- ITS FALSE NEIGHBOUR: 'it returns false'. Refute it at one input. -/
def throwsMoreWrong : ChangeSpec := { name := "throwsMore", fn := fun _ => fun
  | [d1, d2] => { results := [.lit (.bool false)], args := [d1, d2] }
  | _ => none }
def ThrowsMoreWrongFalsely : Prop := throwsMoreRow.holds Try.pinned (OpenSpec.ofChange throwsMoreWrong)

/-- 'davitlaw17.SameRight': WHATEVER THE INPUT: true; the input reads as it did. -/
def sameRightSpec : ChangeSpec := { name := "sameRight", fn := fun _ => fun
  | [d1, d2] => { results := [.lit (.bool true)], args := [d1, d2] }
  | _ => none }
def sameRightRow : OpenClaim := { program := "ytmanpbgaihdalaa", sum := "8412d65dd87b8b9f1610113ed77c8458d237ce11961830b58a3a53d172900468", func := "davit/davitlaw17.SameRight", spec := "sameRight", unfollowed := true, recurses := true, plainKeys := false, apart := false }
def SameRightSaid : Prop := sameRightRow.holds Try.pinned (OpenSpec.ofChange sameRightSpec)

/-- ITS FALSE NEIGHBOUR: 'it returns false'. Refute it at one input. -/
def sameRightWrong : ChangeSpec := { name := "sameRight", fn := fun _ => fun
  | [d1, d2] => { results := [.lit (.bool false)], args := [d1, d2] }
  | _ => none }
def SameRightWrongFalsely : Prop := sameRightRow.holds Try.pinned (OpenSpec.ofChange sameRightWrong)

/-- 'davitlaw14.CalmRight': WHATEVER THE INPUT: true; the input reads as it did. -/
def calmRightSpec : ChangeSpec := { name := "calmRight", fn := fun _ => fun
  | [d] => { results := [.lit (.bool true)], args := [d] }
  | _ => none }
def calmRightRow : OpenClaim := { program := "ytmanpbgaihdalaa", sum := "8412d65dd87b8b9f1610113ed77c8458d237ce11961830b58a3a53d172900468", func := "davit/davitlaw14.CalmRight", spec := "calmRight", unfollowed := true, recurses := true, plainKeys := false, apart := false }
def CalmRightSaid : Prop := calmRightRow.holds Try.pinned (OpenSpec.ofChange calmRightSpec)

/-- ITS FALSE NEIGHBOUR: 'it returns false'. Refute it at one input. -/
def calmRightWrong : ChangeSpec := { name := "calmRight", fn := fun _ => fun
  | [d] => { results := [.lit (.bool false)], args := [d] }
  | _ => none }
def CalmRightWrongFalsely : Prop := calmRightRow.holds Try.pinned (OpenSpec.ofChange calmRightWrong)

/-- 'davitlaw14.CalmCounts': WHATEVER THE INPUT: true; the input reads as it did. -/
def calmCountsSpec : ChangeSpec := { name := "calmCounts", fn := fun _ => fun
  | [d] => { results := [.lit (.bool true)], args := [d] }
  | _ => none }
def calmCountsRow : OpenClaim := { program := "ytmanpbgaihdalaa", sum := "8412d65dd87b8b9f1610113ed77c8458d237ce11961830b58a3a53d172900468", func := "davit/davitlaw14.CalmCounts", spec := "calmCounts", unfollowed := true, recurses := true, plainKeys := false, apart := false }
def CalmCountsSaid : Prop := calmCountsRow.holds Try.pinned (OpenSpec.ofChange calmCountsSpec)

/-- ITS FALSE NEIGHBOUR: 'it returns false'. Refute it at one input. -/
def calmCountsWrong : ChangeSpec := { name := "calmCounts", fn := fun _ => fun
  | [d] => { results := [.lit (.bool false)], args := [d] }
  | _ => none }
def CalmCountsWrongFalsely : Prop := calmCountsRow.holds Try.pinned (OpenSpec.ofChange calmCountsWrong)

/-- 'davitlaw23.InlineRight': WHATEVER THE INPUT: true; the input reads as it did. -/
def inlineRightSpec : ChangeSpec := { name := "inlineRight", fn := fun _ => fun
  | [d1, d2, d3] => { results := [.lit (.bool true)], args := [d1, d2, d3] }
  | _ => none }
def inlineRightRow : OpenClaim := { program := "ytmanpbgaihdalaa", sum := "8412d65dd87b8b9f1610113ed77c8458d237ce11961830b58a3a53d172900468", func := "davit/davitlaw23.InlineRight", spec := "inlineRight", unfollowed := true, recurses := true, plainKeys := false, apart := false }
def InlineRightSaid : Prop := inlineRightRow.holds Try.pinned (OpenSpec.ofChange inlineRightSpec)

/-- ITS FALSE NEIGHBOUR: 'it returns false'. Refute it at one input. -/
def inlineRightWrong : ChangeSpec := { name := "inlineRight", fn := fun _ => fun
  | [d1, d2, d3] => { results := [.lit (.bool false)], args := [d1, d2, d3] }
  | _ => none }
def InlineRightWrongFalsely : Prop := inlineRightRow.holds Try.pinned (OpenSpec.ofChange inlineRightWrong)

/-- 'davitlaw23.InlineLeft': WHATEVER THE INPUT: true; the input reads as it did. -/
def inlineLeftSpec : ChangeSpec := { name := "inlineLeft", fn := fun _ => fun
  | [d] => { results := [.lit (.bool true)], args := [d] }
  | _ => none }
def inlineLeftRow : OpenClaim := { program := "ytmanpbgaihdalaa", sum := "8412d65dd87b8b9f1610113ed77c8458d237ce11961830b58a3a53d172900468", func := "davit/davitlaw23.InlineLeft", spec := "inlineLeft", unfollowed := true, recurses := true, plainKeys := false, apart := false }
def InlineLeftSaid : Prop := inlineLeftRow.holds Try.pinned (OpenSpec.ofChange inlineLeftSpec)

/-- ITS FALSE NEIGHBOUR: 'it returns false'. Refute it at one input. -/
def inlineLeftWrong : ChangeSpec := { name := "inlineLeft", fn := fun _ => fun
  | [d] => { results := [.lit (.bool false)], args := [d] }
  | _ => none }
def InlineLeftWrongFalsely : Prop := inlineLeftRow.holds Try.pinned (OpenSpec.ofChange inlineLeftWrong)

/-- 'davitlaw16.FoldRight': WHATEVER THE INPUT: true; the input reads as it did. -/
def foldRightSpec : ChangeSpec := { name := "foldRight", fn := fun _ => fun
  | [d1, d2] => { results := [.lit (.bool true)], args := [d1, d2] }
  | _ => none }
def foldRightRow : OpenClaim := { program := "ytmanpbgaihdalaa", sum := "8412d65dd87b8b9f1610113ed77c8458d237ce11961830b58a3a53d172900468", func := "davit/davitlaw16.FoldRight", spec := "foldRight", unfollowed := true, recurses := true, plainKeys := false, apart := false }
def FoldRightSaid : Prop := foldRightRow.holds Try.pinned (OpenSpec.ofChange foldRightSpec)

/-- ITS FALSE NEIGHBOUR: 'it returns false'. Refute it at one input. -/
def foldRightWrong : ChangeSpec := { name := "foldRight", fn := fun _ => fun
  | [d1, d2] => { results := [.lit (.bool false)], args := [d1, d2] }
  | _ => none }
def FoldRightWrongFalsely : Prop := foldRightRow.holds Try.pinned (OpenSpec.ofChange foldRightWrong)

/-- 'davitlaw10.LiveGoes': WHATEVER THE INPUT: true; the input reads as it did. -/
def liveGoesSpec : ChangeSpec := { name := "liveGoes", fn := fun _ => fun
  | [d] => { results := [.lit (.bool true)], args := [d] }
  | _ => none }
def liveGoesRow : OpenClaim := { program := "ytmanpbgaihdalaa", sum := "8412d65dd87b8b9f1610113ed77c8458d237ce11961830b58a3a53d172900468", func := "davit/davitlaw10.LiveGoes", spec := "liveGoes", unfollowed := true, recurses := true, plainKeys := false, apart := false }
def LiveGoesSaid : Prop := liveGoesRow.holds Try.pinned (OpenSpec.ofChange liveGoesSpec)

/-- ITS FALSE NEIGHBOUR: 'it returns false'. Refute it at one input. -/
def liveGoesWrong : ChangeSpec := { name := "liveGoes", fn := fun _ => fun
  | [d] => { results := [.lit (.bool false)], args := [d] }
  | _ => none }
def LiveGoesWrongFalsely : Prop := liveGoesRow.holds Try.pinned (OpenSpec.ofChange liveGoesWrong)

/-- 'davitlaw13.DeadRight': WHATEVER THE INPUT: true; the input reads as it did. -/
def deadRightSpec : ChangeSpec := { name := "deadRight", fn := fun _ => fun
  | [d1, d2] => { results := [.lit (.bool true)], args := [d1, d2] }
  | _ => none }
def deadRightRow : OpenClaim := { program := "ytmanpbgaihdalaa", sum := "8412d65dd87b8b9f1610113ed77c8458d237ce11961830b58a3a53d172900468", func := "davit/davitlaw13.DeadRight", spec := "deadRight", unfollowed := true, recurses := true, plainKeys := false, apart := false }
def DeadRightSaid : Prop := deadRightRow.holds Try.pinned (OpenSpec.ofChange deadRightSpec)

/-- ITS FALSE NEIGHBOUR: 'it returns false'. Refute it at one input. -/
def deadRightWrong : ChangeSpec := { name := "deadRight", fn := fun _ => fun
  | [d1, d2] => { results := [.lit (.bool false)], args := [d1, d2] }
  | _ => none }
def DeadRightWrongFalsely : Prop := deadRightRow.holds Try.pinned (OpenSpec.ofChange deadRightWrong)

/-- 'davitlaw13.DeadAll': WHATEVER THE INPUT: true; the input reads as it did. -/
def deadAllSpec : ChangeSpec := { name := "deadAll", fn := fun _ => fun
  | [d1, d2] => { results := [.lit (.bool true)], args := [d1, d2] }
  | _ => none }
def deadAllRow : OpenClaim := { program := "ytmanpbgaihdalaa", sum := "8412d65dd87b8b9f1610113ed77c8458d237ce11961830b58a3a53d172900468", func := "davit/davitlaw13.DeadAll", spec := "deadAll", unfollowed := true, recurses := true, plainKeys := false, apart := false }
def DeadAllSaid : Prop := deadAllRow.holds Try.pinned (OpenSpec.ofChange deadAllSpec)

/-- ITS FALSE NEIGHBOUR: 'it returns false'. Refute it at one input. -/
def deadAllWrong : ChangeSpec := { name := "deadAll", fn := fun _ => fun
  | [d1, d2] => { results := [.lit (.bool false)], args := [d1, d2] }
  | _ => none }
def DeadAllWrongFalsely : Prop := deadAllRow.holds Try.pinned (OpenSpec.ofChange deadAllWrong)

/-- 'davitlaw18.IdleEffects': WHATEVER THE INPUT: true; the input reads as it did. -/
def idleEffectsSpec : ChangeSpec := { name := "idleEffects", fn := fun _ => fun
  | [d] => { results := [.lit (.bool true)], args := [d] }
  | _ => none }
def idleEffectsRow : OpenClaim := { program := "ytmanpbgaihdalaa", sum := "8412d65dd87b8b9f1610113ed77c8458d237ce11961830b58a3a53d172900468", func := "davit/davitlaw18.IdleEffects", spec := "idleEffects", unfollowed := true, recurses := true, plainKeys := false, apart := false }
def IdleEffectsSaid : Prop := idleEffectsRow.holds Try.pinned (OpenSpec.ofChange idleEffectsSpec)

/-- ITS FALSE NEIGHBOUR: 'it returns false'. Refute it at one input. -/
def idleEffectsWrong : ChangeSpec := { name := "idleEffects", fn := fun _ => fun
  | [d] => { results := [.lit (.bool false)], args := [d] }
  | _ => none }
def IdleEffectsWrongFalsely : Prop := idleEffectsRow.holds Try.pinned (OpenSpec.ofChange idleEffectsWrong)

/- THE SECOND FORM. 'bulk': how many values and letters a reading holds, each counted each time it is reached (what is shared counts as often as it is met; a slice's spare places count too). A statement '..UptoSaid' is the law's where the arguments, and the package variables that the reading takes, are together of bulk at most 1048576: NARROWER than '..Said'. Prove '..Said' where nothing that the law and all that it calls make is longer than what came in: it says more and counts as full. Else prove '..UptoSaid'. A law counts once. -/
mutual
def uptoBulk {H : Type} : DataW H → Nat
  | .lit (.string bytes) => bytes.length + 1
  | .lit _ => 1
  | .nil => 1
  | .ptr d => uptoBulk d + 1
  | .slice elems spare => uptoBulkAll elems + uptoBulkAll spare + 1
  | .agg parts => uptoBulkAll parts + 1
  | .iface _ d => uptoBulk d + 1
  | .map entries => uptoBulkEntries entries + 1
  | .held _ => 1
def uptoBulkAll {H : Type} : List (DataW H) → Nat
  | [] => 0
  | d :: r => uptoBulk d + uptoBulkAll r
def uptoBulkEntries {H : Type} : List (Lit × DataW H) → Nat
  | [] => 0
  | x :: r => uptoBulkEntry x + uptoBulkEntries r
def uptoBulkEntry {H : Type} : Lit × DataW H → Nat
  | (.string bytes, d) => bytes.length + uptoBulk d + 1
  | (_, d) => uptoBulk d + 1
 end
def uptoSmall : (H : Type) → List (DataW H) → Bool := fun _ ds => decide (uptoBulkAll ds ≤ 1048576)
def OpenSpec.upto (s : _root_.Go.ChangeSpec) : _root_.Go.OpenSpec := { _root_.Go.OpenSpec.ofChange s with cond := some uptoSmall }

/-- 'davitlaw12.ThrowsRight', WHERE WHAT IT READS IS OF BULK AT MOST 1048576: true; the input reads as it did. -/
def throwsRightUptoRow : OpenClaim := { program := "ytmanpbgaihdalaa", sum := "8412d65dd87b8b9f1610113ed77c8458d237ce11961830b58a3a53d172900468", func := "davit/davitlaw12.ThrowsRight", spec := "throwsRight", unfollowed := true, recurses := true, plainKeys := false, apart := false, narrowed := true }
def ThrowsRightUptoSaid : Prop := throwsRightUptoRow.holds Try.pinned (OpenSpec.upto throwsRightSpec)

/-- 'davitlaw12.ThrowsMore', WHERE WHAT IT READS IS OF BULK AT MOST 1048576: true; the input reads as it did. -/
def throwsMoreUptoRow : OpenClaim := { program := "ytmanpbgaihdalaa", sum := "8412d65dd87b8b9f1610113ed77c8458d237ce11961830b58a3a53d172900468", func := "davit/davitlaw12.ThrowsMore", spec := "throwsMore", unfollowed := true, recurses := true, plainKeys := false, apart := false, narrowed := true }
def ThrowsMoreUptoSaid : Prop := throwsMoreUptoRow.holds Try.pinned (OpenSpec.upto throwsMoreSpec)

/-- 'davitlaw17.SameRight', WHERE WHAT IT READS IS OF BULK AT MOST 1048576: true; the input reads as it did. -/
def sameRightUptoRow : OpenClaim := { program := "ytmanpbgaihdalaa", sum := "8412d65dd87b8b9f1610113ed77c8458d237ce11961830b58a3a53d172900468", func := "davit/davitlaw17.SameRight", spec := "sameRight", unfollowed := true, recurses := true, plainKeys := false, apart := false, narrowed := true }
def SameRightUptoSaid : Prop := sameRightUptoRow.holds Try.pinned (OpenSpec.upto sameRightSpec)

/-- 'davitlaw14.CalmRight', WHERE WHAT IT READS IS OF BULK AT MOST 1048576: true; the input reads as it did. -/
def calmRightUptoRow : OpenClaim := { program := "ytmanpbgaihdalaa", sum := "8412d65dd87b8b9f1610113ed77c8458d237ce11961830b58a3a53d172900468", func := "davit/davitlaw14.CalmRight", spec := "calmRight", unfollowed := true, recurses := true, plainKeys := false, apart := false, narrowed := true }
def CalmRightUptoSaid : Prop := calmRightUptoRow.holds Try.pinned (OpenSpec.upto calmRightSpec)

/-- 'davitlaw14.CalmCounts', WHERE WHAT IT READS IS OF BULK AT MOST 1048576: true; the input reads as it did. -/
def calmCountsUptoRow : OpenClaim := { program := "ytmanpbgaihdalaa", sum := "8412d65dd87b8b9f1610113ed77c8458d237ce11961830b58a3a53d172900468", func := "davit/davitlaw14.CalmCounts", spec := "calmCounts", unfollowed := true, recurses := true, plainKeys := false, apart := false, narrowed := true }
def CalmCountsUptoSaid : Prop := calmCountsUptoRow.holds Try.pinned (OpenSpec.upto calmCountsSpec)

/-- 'davitlaw23.InlineRight', WHERE WHAT IT READS IS OF BULK AT MOST 1048576: true; the input reads as it did. -/
def inlineRightUptoRow : OpenClaim := { program := "ytmanpbgaihdalaa", sum := "8412d65dd87b8b9f1610113ed77c8458d237ce11961830b58a3a53d172900468", func := "davit/davitlaw23.InlineRight", spec := "inlineRight", unfollowed := true, recurses := true, plainKeys := false, apart := false, narrowed := true }
def InlineRightUptoSaid : Prop := inlineRightUptoRow.holds Try.pinned (OpenSpec.upto inlineRightSpec)

/-- 'davitlaw23.InlineLeft', WHERE WHAT IT READS IS OF BULK AT MOST 1048576: true; the input reads as it did. -/
def inlineLeftUptoRow : OpenClaim := { program := "ytmanpbgaihdalaa", sum := "8412d65dd87b8b9f1610113ed77c8458d237ce11961830b58a3a53d172900468", func := "davit/davitlaw23.InlineLeft", spec := "inlineLeft", unfollowed := true, recurses := true, plainKeys := false, apart := false, narrowed := true }
def InlineLeftUptoSaid : Prop := inlineLeftUptoRow.holds Try.pinned (OpenSpec.upto inlineLeftSpec)

/-- 'davitlaw16.FoldRight', WHERE WHAT IT READS IS OF BULK AT MOST 1048576: true; the input reads as it did. -/
def foldRightUptoRow : OpenClaim := { program := "ytmanpbgaihdalaa", sum := "8412d65dd87b8b9f1610113ed77c8458d237ce11961830b58a3a53d172900468", func := "davit/davitlaw16.FoldRight", spec := "foldRight", unfollowed := true, recurses := true, plainKeys := false, apart := false, narrowed := true }
def FoldRightUptoSaid : Prop := foldRightUptoRow.holds Try.pinned (OpenSpec.upto foldRightSpec)

/-- 'davitlaw10.LiveGoes', WHERE WHAT IT READS IS OF BULK AT MOST 1048576: true; the input reads as it did. -/
def liveGoesUptoRow : OpenClaim := { program := "ytmanpbgaihdalaa", sum := "8412d65dd87b8b9f1610113ed77c8458d237ce11961830b58a3a53d172900468", func := "davit/davitlaw10.LiveGoes", spec := "liveGoes", unfollowed := true, recurses := true, plainKeys := false, apart := false, narrowed := true }
def LiveGoesUptoSaid : Prop := liveGoesUptoRow.holds Try.pinned (OpenSpec.upto liveGoesSpec)

/-- 'davitlaw13.DeadRight', WHERE WHAT IT READS IS OF BULK AT MOST 1048576: true; the input reads as it did. -/
def deadRightUptoRow : OpenClaim := { program := "ytmanpbgaihdalaa", sum := "8412d65dd87b8b9f1610113ed77c8458d237ce11961830b58a3a53d172900468", func := "davit/davitlaw13.DeadRight", spec := "deadRight", unfollowed := true, recurses := true, plainKeys := false, apart := false, narrowed := true }
def DeadRightUptoSaid : Prop := deadRightUptoRow.holds Try.pinned (OpenSpec.upto deadRightSpec)

/-- 'davitlaw13.DeadAll', WHERE WHAT IT READS IS OF BULK AT MOST 1048576: true; the input reads as it did. -/
def deadAllUptoRow : OpenClaim := { program := "ytmanpbgaihdalaa", sum := "8412d65dd87b8b9f1610113ed77c8458d237ce11961830b58a3a53d172900468", func := "davit/davitlaw13.DeadAll", spec := "deadAll", unfollowed := true, recurses := true, plainKeys := false, apart := false, narrowed := true }
def DeadAllUptoSaid : Prop := deadAllUptoRow.holds Try.pinned (OpenSpec.upto deadAllSpec)

/-- 'davitlaw18.IdleEffects', WHERE WHAT IT READS IS OF BULK AT MOST 1048576: true; the input reads as it did. -/
def idleEffectsUptoRow : OpenClaim := { program := "ytmanpbgaihdalaa", sum := "8412d65dd87b8b9f1610113ed77c8458d237ce11961830b58a3a53d172900468", func := "davit/davitlaw18.IdleEffects", spec := "idleEffects", unfollowed := true, recurses := true, plainKeys := false, apart := false, narrowed := true }
def IdleEffectsUptoSaid : Prop := idleEffectsUptoRow.holds Try.pinned (OpenSpec.upto idleEffectsSpec)

end Rows
end Go.Proofs.Ytmanpbgaihdalaa
