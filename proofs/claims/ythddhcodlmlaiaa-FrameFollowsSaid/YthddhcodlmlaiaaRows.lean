/-
  No cell of these rows narrows 'for every input' (looked for: loops, veiled, ifaces, maps, wideKeys, modest, calm, conditions, laid).
  DERIVED. THE GIVEN ROWS OF THIS SEAT. 10 by the template 'for every input the law returns true; each argument reads behind the call as it read before'; 0 by the template 'total and deterministic' (their statements: YthddhcodlmlaiaaTotals.lean).
  GIVEN WITH THE SEED: the statements are not yours to turn. If you find one false, say at which input.
  Laid BY PROGRAM, IN A SANDBOX (cutbox-rows.mjs): the forced cells as the released guide's own fill.sh prints them over the translation 7401ee3b73bf65a4… (all of the seat's roots in one cut). By AI agents, Wed Nov 11 2026. No macro, syntax, notation, axiom, sorry.
-/
import Derived.Test.YthddhcodlmlaiaaChecked
import GoSem.Claim
import GoSem.ClaimJoined
import GoSem.ClaimMapViews
import Derived.JoinedTies
import Derived.KernelRfl
namespace Go.Proofs.Ythddhcodlmlaiaa
/- THE CELL 'sum', in the pinned program and in every row, IS THE sha256 OF THE DUMP (.gsa) THAT YthddhcodlmlaiaaProg.lean LOADS. Nothing in Lean hashes anything: it is a label: what it is worth is what the hold of that sum in a sandbox is worth. -/
noncomputable def Try.pinned : Pinned := { name := "ythddhcodlmlaiaa", sum := "7401ee3b73bf65a49ef4f1b0d014d9a8c6ca2099ad905924541e367f48cbbd14", checked := Try.checked }
namespace Rows
def none {H : Type} : Left H := { results := [], args := [] }

/-- 'clockworklaw01.SumParts': WHATEVER THE INPUT: true; the input reads as it did. -/
def sumPartsSpec : ChangeSpec := { name := "sumParts", fn := fun _ => fun
  | [d] => { results := [.lit (.bool true)], args := [d] }
  | _ => none }
def sumPartsRow : OpenClaim := { program := "ythddhcodlmlaiaa", sum := "7401ee3b73bf65a49ef4f1b0d014d9a8c6ca2099ad905924541e367f48cbbd14", func := "clockwork/clockworklaw01.SumParts", spec := "sumParts", unfollowed := true, recurses := true, apart := false }
def SumPartsSaid : Prop := sumPartsRow.holds Try.pinned (OpenSpec.ofChange sumPartsSpec)

/-- ITS FALSE NEIGHBOUR: 'it returns false'. Refute it at one input. -/
def sumPartsWrong : ChangeSpec := { name := "sumParts", fn := fun _ => fun
  | [d] => { results := [.lit (.bool false)], args := [d] }
  | _ => none }
def SumPartsWrongFalsely : Prop := sumPartsRow.holds Try.pinned (OpenSpec.ofChange sumPartsWrong)

/-- 'clockworklaw01.SumMore': WHATEVER THE INPUT: true; the input reads as it did. -/
def sumMoreSpec : ChangeSpec := { name := "sumMore", fn := fun _ => fun
  | [d1, d2, d3] => { results := [.lit (.bool true)], args := [d1, d2, d3] }
  | _ => none }
def sumMoreRow : OpenClaim := { program := "ythddhcodlmlaiaa", sum := "7401ee3b73bf65a49ef4f1b0d014d9a8c6ca2099ad905924541e367f48cbbd14", func := "clockwork/clockworklaw01.SumMore", spec := "sumMore", unfollowed := true, recurses := true, apart := false }
def SumMoreSaid : Prop := sumMoreRow.holds Try.pinned (OpenSpec.ofChange sumMoreSpec)

/-- ITS FALSE NEIGHBOUR: 'it returns false'. Refute it at one input. -/
def sumMoreWrong : ChangeSpec := { name := "sumMore", fn := fun _ => fun
  | [d1, d2, d3] => { results := [.lit (.bool false)], args := [d1, d2, d3] }
  | _ => none }
def SumMoreWrongFalsely : Prop := sumMoreRow.holds Try.pinned (OpenSpec.ofChange sumMoreWrong)

/-- 'clockworklaw01.SumJoins': WHATEVER THE INPUT: true; the input reads as it did. -/
def sumJoinsSpec : ChangeSpec := { name := "sumJoins", fn := fun _ => fun
  | [d1, d2] => { results := [.lit (.bool true)], args := [d1, d2] }
  | _ => none }
def sumJoinsRow : OpenClaim := { program := "ythddhcodlmlaiaa", sum := "7401ee3b73bf65a49ef4f1b0d014d9a8c6ca2099ad905924541e367f48cbbd14", func := "clockwork/clockworklaw01.SumJoins", spec := "sumJoins", unfollowed := true, recurses := true, apart := false }
def SumJoinsSaid : Prop := sumJoinsRow.holds Try.pinned (OpenSpec.ofChange sumJoinsSpec)

/-- ITS FALSE NEIGHBOUR: 'it returns false'. Refute it at one input. -/
def sumJoinsWrong : ChangeSpec := { name := "sumJoins", fn := fun _ => fun
  | [d1, d2] => { results := [.lit (.bool false)], args := [d1, d2] }
  | _ => none }
def SumJoinsWrongFalsely : Prop := sumJoinsRow.holds Try.pinned (OpenSpec.ofChange sumJoinsWrong)

/-- 'clockworklaw01.SumSeals': WHATEVER THE INPUT: true; the input reads as it did. -/
def sumSealsSpec : ChangeSpec := { name := "sumSeals", fn := fun _ => fun
  | [d] => { results := [.lit (.bool true)], args := [d] }
  | _ => none }
def sumSealsRow : OpenClaim := { program := "ythddhcodlmlaiaa", sum := "7401ee3b73bf65a49ef4f1b0d014d9a8c6ca2099ad905924541e367f48cbbd14", func := "clockwork/clockworklaw01.SumSeals", spec := "sumSeals", unfollowed := true, recurses := true, apart := false }
def SumSealsSaid : Prop := sumSealsRow.holds Try.pinned (OpenSpec.ofChange sumSealsSpec)

/-- ITS FALSE NEIGHBOUR: 'it returns false'. Refute it at one input. -/
def sumSealsWrong : ChangeSpec := { name := "sumSeals", fn := fun _ => fun
  | [d] => { results := [.lit (.bool false)], args := [d] }
  | _ => none }
def SumSealsWrongFalsely : Prop := sumSealsRow.holds Try.pinned (OpenSpec.ofChange sumSealsWrong)

/-- 'clockworklaw01.SumBursts': WHATEVER THE INPUT: true; the input reads as it did. -/
def sumBurstsSpec : ChangeSpec := { name := "sumBursts", fn := fun _ => fun
  | [d1, d2, d3] => { results := [.lit (.bool true)], args := [d1, d2, d3] }
  | _ => none }
def sumBurstsRow : OpenClaim := { program := "ythddhcodlmlaiaa", sum := "7401ee3b73bf65a49ef4f1b0d014d9a8c6ca2099ad905924541e367f48cbbd14", func := "clockwork/clockworklaw01.SumBursts", spec := "sumBursts", unfollowed := true, recurses := true, apart := false }
def SumBurstsSaid : Prop := sumBurstsRow.holds Try.pinned (OpenSpec.ofChange sumBurstsSpec)

/-- ITS FALSE NEIGHBOUR: 'it returns false'. Refute it at one input. -/
def sumBurstsWrong : ChangeSpec := { name := "sumBursts", fn := fun _ => fun
  | [d1, d2, d3] => { results := [.lit (.bool false)], args := [d1, d2, d3] }
  | _ => none }
def SumBurstsWrongFalsely : Prop := sumBurstsRow.holds Try.pinned (OpenSpec.ofChange sumBurstsWrong)

/-- 'clockworklaw06.FrameLongs': WHATEVER THE INPUT: true; the input reads as it did. -/
def frameLongsSpec : ChangeSpec := { name := "frameLongs", fn := fun _ => fun
  | [d1, d2] => { results := [.lit (.bool true)], args := [d1, d2] }
  | _ => none }
def frameLongsRow : OpenClaim := { program := "ythddhcodlmlaiaa", sum := "7401ee3b73bf65a49ef4f1b0d014d9a8c6ca2099ad905924541e367f48cbbd14", func := "clockwork/clockworklaw06.FrameLongs", spec := "frameLongs", unfollowed := true, recurses := true, apart := false }
def FrameLongsSaid : Prop := frameLongsRow.holds Try.pinned (OpenSpec.ofChange frameLongsSpec)

/-- ITS FALSE NEIGHBOUR: 'it returns false'. Refute it at one input. -/
def frameLongsWrong : ChangeSpec := { name := "frameLongs", fn := fun _ => fun
  | [d1, d2] => { results := [.lit (.bool false)], args := [d1, d2] }
  | _ => none }
def FrameLongsWrongFalsely : Prop := frameLongsRow.holds Try.pinned (OpenSpec.ofChange frameLongsWrong)

/-- 'clockworklaw06.FrameSplits': WHATEVER THE INPUT: true; the input reads as it did. -/
def frameSplitsSpec : ChangeSpec := { name := "frameSplits", fn := fun _ => fun
  | [d] => { results := [.lit (.bool true)], args := [d] }
  | _ => none }
def frameSplitsRow : OpenClaim := { program := "ythddhcodlmlaiaa", sum := "7401ee3b73bf65a49ef4f1b0d014d9a8c6ca2099ad905924541e367f48cbbd14", func := "clockwork/clockworklaw06.FrameSplits", spec := "frameSplits", unfollowed := true, recurses := true, apart := false }
def FrameSplitsSaid : Prop := frameSplitsRow.holds Try.pinned (OpenSpec.ofChange frameSplitsSpec)

/-- ITS FALSE NEIGHBOUR: 'it returns false'. Refute it at one input. -/
def frameSplitsWrong : ChangeSpec := { name := "frameSplits", fn := fun _ => fun
  | [d] => { results := [.lit (.bool false)], args := [d] }
  | _ => none }
def FrameSplitsWrongFalsely : Prop := frameSplitsRow.holds Try.pinned (OpenSpec.ofChange frameSplitsWrong)

/-- 'clockworklaw06.FrameCuts': WHATEVER THE INPUT: true; the input reads as it did. -/
def frameCutsSpec : ChangeSpec := { name := "frameCuts", fn := fun _ => fun
  | [d1, d2] => { results := [.lit (.bool true)], args := [d1, d2] }
  | _ => none }
def frameCutsRow : OpenClaim := { program := "ythddhcodlmlaiaa", sum := "7401ee3b73bf65a49ef4f1b0d014d9a8c6ca2099ad905924541e367f48cbbd14", func := "clockwork/clockworklaw06.FrameCuts", spec := "frameCuts", unfollowed := true, recurses := true, apart := false }
def FrameCutsSaid : Prop := frameCutsRow.holds Try.pinned (OpenSpec.ofChange frameCutsSpec)

/-- ITS FALSE NEIGHBOUR: 'it returns false'. Refute it at one input. -/
def frameCutsWrong : ChangeSpec := { name := "frameCuts", fn := fun _ => fun
  | [d1, d2] => { results := [.lit (.bool false)], args := [d1, d2] }
  | _ => none }
def FrameCutsWrongFalsely : Prop := frameCutsRow.holds Try.pinned (OpenSpec.ofChange frameCutsWrong)

/-- 'clockworklaw06.FrameFollows': WHATEVER THE INPUT: true; the input reads as it did. -/
def frameFollowsSpec : ChangeSpec := { name := "frameFollows", fn := fun _ => fun
  | [d1, d2] => { results := [.lit (.bool true)], args := [d1, d2] }
  | _ => none }
def frameFollowsRow : OpenClaim := { program := "ythddhcodlmlaiaa", sum := "7401ee3b73bf65a49ef4f1b0d014d9a8c6ca2099ad905924541e367f48cbbd14", func := "clockwork/clockworklaw06.FrameFollows", spec := "frameFollows", unfollowed := true, recurses := true, apart := false }
def FrameFollowsSaid : Prop := frameFollowsRow.holds Try.pinned (OpenSpec.ofChange frameFollowsSpec)

/-- ITS FALSE NEIGHBOUR: 'it returns false'. Refute it at one input. -/
def frameFollowsWrong : ChangeSpec := { name := "frameFollows", fn := fun _ => fun
  | [d1, d2] => { results := [.lit (.bool false)], args := [d1, d2] }
  | _ => none }
def FrameFollowsWrongFalsely : Prop := frameFollowsRow.holds Try.pinned (OpenSpec.ofChange frameFollowsWrong)

/-- 'clockworklaw06.FrameJoins': WHATEVER THE INPUT: true; the input reads as it did. -/
def frameJoinsSpec : ChangeSpec := { name := "frameJoins", fn := fun _ => fun
  | [d] => { results := [.lit (.bool true)], args := [d] }
  | _ => none }
def frameJoinsRow : OpenClaim := { program := "ythddhcodlmlaiaa", sum := "7401ee3b73bf65a49ef4f1b0d014d9a8c6ca2099ad905924541e367f48cbbd14", func := "clockwork/clockworklaw06.FrameJoins", spec := "frameJoins", unfollowed := true, recurses := true, apart := false }
def FrameJoinsSaid : Prop := frameJoinsRow.holds Try.pinned (OpenSpec.ofChange frameJoinsSpec)

/-- ITS FALSE NEIGHBOUR: 'it returns false'. Refute it at one input. -/
def frameJoinsWrong : ChangeSpec := { name := "frameJoins", fn := fun _ => fun
  | [d] => { results := [.lit (.bool false)], args := [d] }
  | _ => none }
def FrameJoinsWrongFalsely : Prop := frameJoinsRow.holds Try.pinned (OpenSpec.ofChange frameJoinsWrong)

/- THE SECOND FORM. 'bulk': how many values and letters a reading holds, each counted each time it is reached (what is shared counts as often as it is met; a slice's spare places count too). A statement '..UptoSaid' is the law's where the arguments, and the package variables that the reading takes, are together of bulk at most 1048576: NARROWER than '..Said'. Prove '..Said' where nothing that the law and all that it calls make is longer than what came in: it says more and counts as full. Else prove '..UptoSaid'. A law counts once. -/
mutual
def uptoBulk {H : Type} : DataW H → Nat
  | .lit (.string bytes) => bytes.length + 1
  | .lit _ => 1
  | .nil => 1
  | .ptr d => uptoBulk d + 1
  | .slice elems spare => uptoBulkAll elems + uptoBulkAll spare + 1
  | .agg parts => uptoBulkAll parts + 1
  | .iface _ d => uptoBulk d + 1
  | .map entries => uptoBulkEntries entries + 1
  | .held _ => 1
def uptoBulkAll {H : Type} : List (DataW H) → Nat
  | [] => 0
  | d :: r => uptoBulk d + uptoBulkAll r
def uptoBulkEntries {H : Type} : List (Lit × DataW H) → Nat
  | [] => 0
  | x :: r => uptoBulkEntry x + uptoBulkEntries r
def uptoBulkEntry {H : Type} : Lit × DataW H → Nat
  | (.string bytes, d) => bytes.length + uptoBulk d + 1
  | (_, d) => uptoBulk d + 1
 end
def uptoSmall : (H : Type) → List (DataW H) → Bool := fun _ ds => decide (uptoBulkAll ds ≤ 1048576)
def OpenSpec.upto (s : _root_.Go.ChangeSpec) : _root_.Go.OpenSpec := { _root_.Go.OpenSpec.ofChange s with cond := some uptoSmall }

/-- 'clockworklaw01.SumParts', WHERE WHAT IT READS IS OF BULK AT MOST 1048576: true; the input reads as it did. -/
def sumPartsUptoRow : OpenClaim := { program := "ythddhcodlmlaiaa", sum := "7401ee3b73bf65a49ef4f1b0d014d9a8c6ca2099ad905924541e367f48cbbd14", func := "clockwork/clockworklaw01.SumParts", spec := "sumParts", unfollowed := true, recurses := true, apart := false, narrowed := true }
def SumPartsUptoSaid : Prop := sumPartsUptoRow.holds Try.pinned (OpenSpec.upto sumPartsSpec)

/-- 'clockworklaw01.SumMore', WHERE WHAT IT READS IS OF BULK AT MOST 1048576: true; the input reads as it did. -/
def sumMoreUptoRow : OpenClaim := { program := "ythddhcodlmlaiaa", sum := "7401ee3b73bf65a49ef4f1b0d014d9a8c6ca2099ad905924541e367f48cbbd14", func := "clockwork/clockworklaw01.SumMore", spec := "sumMore", unfollowed := true, recurses := true, apart := false, narrowed := true }
def SumMoreUptoSaid : Prop := sumMoreUptoRow.holds Try.pinned (OpenSpec.upto sumMoreSpec)

/-- 'clockworklaw01.SumJoins', WHERE WHAT IT READS IS OF BULK AT MOST 1048576: true; the input reads as it did. -/
def sumJoinsUptoRow : OpenClaim := { program := "ythddhcodlmlaiaa", sum := "7401ee3b73bf65a49ef4f1b0d014d9a8c6ca2099ad905924541e367f48cbbd14", func := "clockwork/clockworklaw01.SumJoins", spec := "sumJoins", unfollowed := true, recurses := true, apart := false, narrowed := true }
def SumJoinsUptoSaid : Prop := sumJoinsUptoRow.holds Try.pinned (OpenSpec.upto sumJoinsSpec)

/-- 'clockworklaw01.SumSeals', WHERE WHAT IT READS IS OF BULK AT MOST 1048576: true; the input reads as it did. -/
def sumSealsUptoRow : OpenClaim := { program := "ythddhcodlmlaiaa", sum := "7401ee3b73bf65a49ef4f1b0d014d9a8c6ca2099ad905924541e367f48cbbd14", func := "clockwork/clockworklaw01.SumSeals", spec := "sumSeals", unfollowed := true, recurses := true, apart := false, narrowed := true }
def SumSealsUptoSaid : Prop := sumSealsUptoRow.holds Try.pinned (OpenSpec.upto sumSealsSpec)

/-- 'clockworklaw01.SumBursts', WHERE WHAT IT READS IS OF BULK AT MOST 1048576: true; the input reads as it did. -/
def sumBurstsUptoRow : OpenClaim := { program := "ythddhcodlmlaiaa", sum := "7401ee3b73bf65a49ef4f1b0d014d9a8c6ca2099ad905924541e367f48cbbd14", func := "clockwork/clockworklaw01.SumBursts", spec := "sumBursts", unfollowed := true, recurses := true, apart := false, narrowed := true }
def SumBurstsUptoSaid : Prop := sumBurstsUptoRow.holds Try.pinned (OpenSpec.upto sumBurstsSpec)

/-- 'clockworklaw06.FrameLongs', WHERE WHAT IT READS IS OF BULK AT MOST 1048576: true; the input reads as it did. -/
def frameLongsUptoRow : OpenClaim := { program := "ythddhcodlmlaiaa", sum := "7401ee3b73bf65a49ef4f1b0d014d9a8c6ca2099ad905924541e367f48cbbd14", func := "clockwork/clockworklaw06.FrameLongs", spec := "frameLongs", unfollowed := true, recurses := true, apart := false, narrowed := true }
def FrameLongsUptoSaid : Prop := frameLongsUptoRow.holds Try.pinned (OpenSpec.upto frameLongsSpec)

/-- 'clockworklaw06.FrameSplits', WHERE WHAT IT READS IS OF BULK AT MOST 1048576: true; the input reads as it did. -/
def frameSplitsUptoRow : OpenClaim := { program := "ythddhcodlmlaiaa", sum := "7401ee3b73bf65a49ef4f1b0d014d9a8c6ca2099ad905924541e367f48cbbd14", func := "clockwork/clockworklaw06.FrameSplits", spec := "frameSplits", unfollowed := true, recurses := true, apart := false, narrowed := true }
def FrameSplitsUptoSaid : Prop := frameSplitsUptoRow.holds Try.pinned (OpenSpec.upto frameSplitsSpec)

/-- 'clockworklaw06.FrameCuts', WHERE WHAT IT READS IS OF BULK AT MOST 1048576: true; the input reads as it did. -/
def frameCutsUptoRow : OpenClaim := { program := "ythddhcodlmlaiaa", sum := "7401ee3b73bf65a49ef4f1b0d014d9a8c6ca2099ad905924541e367f48cbbd14", func := "clockwork/clockworklaw06.FrameCuts", spec := "frameCuts", unfollowed := true, recurses := true, apart := false, narrowed := true }
def FrameCutsUptoSaid : Prop := frameCutsUptoRow.holds Try.pinned (OpenSpec.upto frameCutsSpec)

/-- 'clockworklaw06.FrameFollows', WHERE WHAT IT READS IS OF BULK AT MOST 1048576: true; the input reads as it did. -/
def frameFollowsUptoRow : OpenClaim := { program := "ythddhcodlmlaiaa", sum := "7401ee3b73bf65a49ef4f1b0d014d9a8c6ca2099ad905924541e367f48cbbd14", func := "clockwork/clockworklaw06.FrameFollows", spec := "frameFollows", unfollowed := true, recurses := true, apart := false, narrowed := true }
def FrameFollowsUptoSaid : Prop := frameFollowsUptoRow.holds Try.pinned (OpenSpec.upto frameFollowsSpec)

/-- 'clockworklaw06.FrameJoins', WHERE WHAT IT READS IS OF BULK AT MOST 1048576: true; the input reads as it did. -/
def frameJoinsUptoRow : OpenClaim := { program := "ythddhcodlmlaiaa", sum := "7401ee3b73bf65a49ef4f1b0d014d9a8c6ca2099ad905924541e367f48cbbd14", func := "clockwork/clockworklaw06.FrameJoins", spec := "frameJoins", unfollowed := true, recurses := true, apart := false, narrowed := true }
def FrameJoinsUptoSaid : Prop := frameJoinsUptoRow.holds Try.pinned (OpenSpec.upto frameJoinsSpec)

end Rows
end Go.Proofs.Ythddhcodlmlaiaa
