/-
  No cell of these rows narrows 'for every input' (looked for: loops, veiled, ifaces, maps, wideKeys, modest, calm, conditions, laid).
  DERIVED. THE GIVEN ROWS OF THIS SEAT. 5 by the template 'for every input the law returns true; each argument reads behind the call as it read before'; 0 by the template 'total and deterministic' (their statements: YtmhjkghmpdnhaaaTotals.lean).
  GIVEN WITH THE SEED: the statements are not yours to turn. If you find one false, say at which input.
  Laid BY PROGRAM, IN A SANDBOX (cutbox-rows.mjs): the forced cells as the released guide's own fill.sh prints them over the translation 5f31bed14b5becf6… (all of the seat's roots in one cut). By AI agents, Wed Nov 11 2026. No macro, syntax, notation, axiom, sorry.
-/
import Derived.Test.YtmhjkghmpdnhaaaChecked
import GoSem.Claim
import GoSem.ClaimJoined
import GoSem.ClaimMapViews
import Derived.JoinedTies
import Derived.KernelRfl
namespace Go.Proofs.Ytmhjkghmpdnhaaa
/- THE CELL 'sum', in the pinned program and in every row, IS THE sha256 OF THE DUMP (.gsa) THAT YtmhjkghmpdnhaaaProg.lean LOADS. Nothing in Lean hashes anything: it is a label: what it is worth is what the hold of that sum in a sandbox is worth. -/
noncomputable def Try.pinned : Pinned := { name := "ytmhjkghmpdnhaaa", sum := "5f31bed14b5becf667bfdf9e6cdebcc3b80f29ec21ca9200b41e5e630b958bc7", checked := Try.checked }
namespace Rows
def none {H : Type} : Left H := { results := [], args := [] }

/-- 'clockworklaw02.BinForms': WHATEVER THE INPUT: true; the input reads as it did. -/
def binFormsSpec : ChangeSpec := { name := "binForms", fn := fun _ => fun
  | [d1, d2, d3] => { results := [.lit (.bool true)], args := [d1, d2, d3] }
  | _ => none }
def binFormsRow : OpenClaim := { program := "ytmhjkghmpdnhaaa", sum := "5f31bed14b5becf667bfdf9e6cdebcc3b80f29ec21ca9200b41e5e630b958bc7", func := "clockwork/clockworklaw02.BinForms", spec := "binForms", unfollowed := true, recurses := true, apart := false }
def BinFormsSaid : Prop := binFormsRow.holds Try.pinned (OpenSpec.ofChange binFormsSpec)

/-- ITS FALSE NEIGHBOUR: 'it returns false'. Refute it at one input. -/
def binFormsWrong : ChangeSpec := { name := "binForms", fn := fun _ => fun
  | [d1, d2, d3] => { results := [.lit (.bool false)], args := [d1, d2, d3] }
  | _ => none }
def BinFormsWrongFalsely : Prop := binFormsRow.holds Try.pinned (OpenSpec.ofChange binFormsWrong)

/-- 'clockworklaw02.BinOnly': WHATEVER THE INPUT: true; the input reads as it did. -/
def binOnlySpec : ChangeSpec := { name := "binOnly", fn := fun _ => fun
  | [d] => { results := [.lit (.bool true)], args := [d] }
  | _ => none }
def binOnlyRow : OpenClaim := { program := "ytmhjkghmpdnhaaa", sum := "5f31bed14b5becf667bfdf9e6cdebcc3b80f29ec21ca9200b41e5e630b958bc7", func := "clockwork/clockworklaw02.BinOnly", spec := "binOnly", unfollowed := true, recurses := true, apart := false }
def BinOnlySaid : Prop := binOnlyRow.holds Try.pinned (OpenSpec.ofChange binOnlySpec)

/-- ITS FALSE NEIGHBOUR: 'it returns false'. Refute it at one input. -/
def binOnlyWrong : ChangeSpec := { name := "binOnly", fn := fun _ => fun
  | [d] => { results := [.lit (.bool false)], args := [d] }
  | _ => none }
def BinOnlyWrongFalsely : Prop := binOnlyRow.holds Try.pinned (OpenSpec.ofChange binOnlyWrong)

/-- 'clockworklaw02.BinReads': WHATEVER THE INPUT: true; the input reads as it did. -/
def binReadsSpec : ChangeSpec := { name := "binReads", fn := fun _ => fun
  | [d1, d2] => { results := [.lit (.bool true)], args := [d1, d2] }
  | _ => none }
def binReadsRow : OpenClaim := { program := "ytmhjkghmpdnhaaa", sum := "5f31bed14b5becf667bfdf9e6cdebcc3b80f29ec21ca9200b41e5e630b958bc7", func := "clockwork/clockworklaw02.BinReads", spec := "binReads", unfollowed := true, recurses := true, apart := false }
def BinReadsSaid : Prop := binReadsRow.holds Try.pinned (OpenSpec.ofChange binReadsSpec)

/-- ITS FALSE NEIGHBOUR: 'it returns false'. Refute it at one input. -/
def binReadsWrong : ChangeSpec := { name := "binReads", fn := fun _ => fun
  | [d1, d2] => { results := [.lit (.bool false)], args := [d1, d2] }
  | _ => none }
def BinReadsWrongFalsely : Prop := binReadsRow.holds Try.pinned (OpenSpec.ofChange binReadsWrong)

/-- 'clockworklaw02.BinKeeps': WHATEVER THE INPUT: true; the input reads as it did. -/
def binKeepsSpec : ChangeSpec := { name := "binKeeps", fn := fun _ => fun
  | [d] => { results := [.lit (.bool true)], args := [d] }
  | _ => none }
def binKeepsRow : OpenClaim := { program := "ytmhjkghmpdnhaaa", sum := "5f31bed14b5becf667bfdf9e6cdebcc3b80f29ec21ca9200b41e5e630b958bc7", func := "clockwork/clockworklaw02.BinKeeps", spec := "binKeeps", unfollowed := true, recurses := true, apart := false }
def BinKeepsSaid : Prop := binKeepsRow.holds Try.pinned (OpenSpec.ofChange binKeepsSpec)

/-- ITS FALSE NEIGHBOUR: 'it returns false'. Refute it at one input. -/
def binKeepsWrong : ChangeSpec := { name := "binKeeps", fn := fun _ => fun
  | [d] => { results := [.lit (.bool false)], args := [d] }
  | _ => none }
def BinKeepsWrongFalsely : Prop := binKeepsRow.holds Try.pinned (OpenSpec.ofChange binKeepsWrong)

/-- 'clockworklaw02.BinInverse': WHATEVER THE INPUT: true; the input reads as it did. -/
def binInverseSpec : ChangeSpec := { name := "binInverse", fn := fun _ => fun
  | [d1, d2, d3] => { results := [.lit (.bool true)], args := [d1, d2, d3] }
  | _ => none }
def binInverseRow : OpenClaim := { program := "ytmhjkghmpdnhaaa", sum := "5f31bed14b5becf667bfdf9e6cdebcc3b80f29ec21ca9200b41e5e630b958bc7", func := "clockwork/clockworklaw02.BinInverse", spec := "binInverse", unfollowed := true, recurses := true, apart := false }
def BinInverseSaid : Prop := binInverseRow.holds Try.pinned (OpenSpec.ofChange binInverseSpec)

/-- ITS FALSE NEIGHBOUR: 'it returns false'. Refute it at one input. -/
def binInverseWrong : ChangeSpec := { name := "binInverse", fn := fun _ => fun
  | [d1, d2, d3] => { results := [.lit (.bool false)], args := [d1, d2, d3] }
  | _ => none }
def BinInverseWrongFalsely : Prop := binInverseRow.holds Try.pinned (OpenSpec.ofChange binInverseWrong)

/- THE SECOND FORM. 'bulk': how many values and letters a reading holds, each counted each time it is reached (what is shared counts as often as it is met; a slice's spare places count too). A statement '..UptoSaid' is the law's where the arguments, and the package variables that the reading takes, are together of bulk at most 1048576: NARROWER than '..Said'. Prove '..Said' where nothing that the law and all that it calls make is longer than what came in: it says more and counts as full. Else prove '..UptoSaid'. A law counts once. -/
mutual
def uptoBulk {H : Type} : DataW H → Nat
  | .lit (.string bytes) => bytes.length + 1
  | .lit _ => 1
  | .nil => 1
  | .ptr d => uptoBulk d + 1
  | .slice elems spare => uptoBulkAll elems + uptoBulkAll spare + 1
  | .agg parts => uptoBulkAll parts + 1
  | .iface _ d => uptoBulk d + 1
  | .map entries => uptoBulkEntries entries + 1
  | .held _ => 1
def uptoBulkAll {H : Type} : List (DataW H) → Nat
  | [] => 0
  | d :: r => uptoBulk d + uptoBulkAll r
def uptoBulkEntries {H : Type} : List (Lit × DataW H) → Nat
  | [] => 0
  | x :: r => uptoBulkEntry x + uptoBulkEntries r
def uptoBulkEntry {H : Type} : Lit × DataW H → Nat
  | (.string bytes, d) => bytes.length + uptoBulk d + 1
  | (_, d) => uptoBulk d + 1
 end
def uptoSmall : (H : Type) → List (DataW H) → Bool := fun _ ds => decide (uptoBulkAll ds ≤ 1048576)
def OpenSpec.upto (s : _root_.Go.ChangeSpec) : _root_.Go.OpenSpec := { _root_.Go.OpenSpec.ofChange s with cond := some uptoSmall }

/-- 'clockworklaw02.BinForms', WHERE WHAT IT READS IS OF BULK AT MOST 1048576: true; the input reads as it did. -/
def binFormsUptoRow : OpenClaim := { program := "ytmhjkghmpdnhaaa", sum := "5f31bed14b5becf667bfdf9e6cdebcc3b80f29ec21ca9200b41e5e630b958bc7", func := "clockwork/clockworklaw02.BinForms", spec := "binForms", unfollowed := true, recurses := true, apart := false, narrowed := true }
def BinFormsUptoSaid : Prop := binFormsUptoRow.holds Try.pinned (OpenSpec.upto binFormsSpec)

/-- 'clockworklaw02.BinOnly', WHERE WHAT IT READS IS OF BULK AT MOST 1048576: true; the input reads as it did. -/
def binOnlyUptoRow : OpenClaim := { program := "ytmhjkghmpdnhaaa", sum := "5f31bed14b5becf667bfdf9e6cdebcc3b80f29ec21ca9200b41e5e630b958bc7", func := "clockwork/clockworklaw02.BinOnly", spec := "binOnly", unfollowed := true, recurses := true, apart := false, narrowed := true }
def BinOnlyUptoSaid : Prop := binOnlyUptoRow.holds Try.pinned (OpenSpec.upto binOnlySpec)

/-- 'clockworklaw02.BinReads', WHERE WHAT IT READS IS OF BULK AT MOST 1048576: true; the input reads as it did. -/
def binReadsUptoRow : OpenClaim := { program := "ytmhjkghmpdnhaaa", sum := "5f31bed14b5becf667bfdf9e6cdebcc3b80f29ec21ca9200b41e5e630b958bc7", func := "clockwork/clockworklaw02.BinReads", spec := "binReads", unfollowed := true, recurses := true, apart := false, narrowed := true }
def BinReadsUptoSaid : Prop := binReadsUptoRow.holds Try.pinned (OpenSpec.upto binReadsSpec)

/-- 'clockworklaw02.BinKeeps', WHERE WHAT IT READS IS OF BULK AT MOST 1048576: true; the input reads as it did. -/
def binKeepsUptoRow : OpenClaim := { program := "ytmhjkghmpdnhaaa", sum := "5f31bed14b5becf667bfdf9e6cdebcc3b80f29ec21ca9200b41e5e630b958bc7", func := "clockwork/clockworklaw02.BinKeeps", spec := "binKeeps", unfollowed := true, recurses := true, apart := false, narrowed := true }
def BinKeepsUptoSaid : Prop := binKeepsUptoRow.holds Try.pinned (OpenSpec.upto binKeepsSpec)

/-- 'clockworklaw02.BinInverse', WHERE WHAT IT READS IS OF BULK AT MOST 1048576: true; the input reads as it did. -/
def binInverseUptoRow : OpenClaim := { program := "ytmhjkghmpdnhaaa", sum := "5f31bed14b5becf667bfdf9e6cdebcc3b80f29ec21ca9200b41e5e630b958bc7", func := "clockwork/clockworklaw02.BinInverse", spec := "binInverse", unfollowed := true, recurses := true, apart := false, narrowed := true }
def BinInverseUptoSaid : Prop := binInverseUptoRow.holds Try.pinned (OpenSpec.upto binInverseSpec)

end Rows
end Go.Proofs.Ytmhjkghmpdnhaaa
