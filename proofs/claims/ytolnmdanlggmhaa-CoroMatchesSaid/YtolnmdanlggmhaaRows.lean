/-
  No cell of these rows narrows 'for every input' (looked for: loops, veiled, ifaces, maps, wideKeys, modest, calm, conditions, laid).
  DERIVED. THE GIVEN ROWS OF THIS SEAT. 11 by the template 'for every input the law returns true; each argument reads behind the call as it read before'; 0 by the template 'total and deterministic' (their statements: YtolnmdanlggmhaaTotals.lean).
  GIVEN WITH THE SEED: the statements are not yours to turn. If you find one false, say at which input.
  Laid BY PROGRAM, IN A SANDBOX (cutbox-rows.mjs): the forced cells as the released guide's own fill.sh prints them over the translation b957907aece538dc… (all of the seat's roots in one cut). By AI agents, Wed Nov 11 2026. No macro, syntax, notation, axiom, sorry.
-/
import Derived.Test.YtolnmdanlggmhaaChecked
import GoSem.Claim
import GoSem.ClaimJoined
import GoSem.ClaimMapViews
import Derived.JoinedTies
import Derived.KernelRfl
namespace Go.Proofs.Ytolnmdanlggmhaa
/- THE CELL 'sum', in the pinned program and in every row, IS THE sha256 OF THE DUMP (.gsa) THAT YtolnmdanlggmhaaProg.lean LOADS. Nothing in Lean hashes anything: it is a label: what it is worth is what the hold of that sum in a sandbox is worth. -/
noncomputable def Try.pinned : Pinned := { name := "ytolnmdanlggmhaa", sum := "b957907aece538dc155304af79c13d8a2695e7404a7f663be8234a6e37bb170f", checked := Try.checked }
namespace Rows
def none {H : Type} : Left H := { results := [], args := [] }

/-- 'clockworklaw17.QueueOrders': WHATEVER THE INPUT: true; the input reads as it did. -/
def queueOrdersSpec : ChangeSpec := { name := "queueOrders", fn := fun _ => fun
  | [d] => { results := [.lit (.bool true)], args := [d] }
  | _ => none }
def queueOrdersRow : OpenClaim := { program := "ytolnmdanlggmhaa", sum := "b957907aece538dc155304af79c13d8a2695e7404a7f663be8234a6e37bb170f", func := "clockwork/clockworklaw17.QueueOrders", spec := "queueOrders", apart := false }
def QueueOrdersSaid : Prop := queueOrdersRow.holds Try.pinned (OpenSpec.ofChange queueOrdersSpec)

/-- ITS FALSE NEIGHBOUR: 'it returns false'. Refute it at one input. -/
def queueOrdersWrong : ChangeSpec := { name := "queueOrders", fn := fun _ => fun
  | [d] => { results := [.lit (.bool false)], args := [d] }
  | _ => none }
def QueueOrdersWrongFalsely : Prop := queueOrdersRow.holds Try.pinned (OpenSpec.ofChange queueOrdersWrong)

/-- 'clockworklaw17.QueueWords': WHATEVER THE INPUT: true; the input reads as it did. -/
def queueWordsSpec : ChangeSpec := { name := "queueWords", fn := fun _ => fun
  | [d] => { results := [.lit (.bool true)], args := [d] }
  | _ => none }
def queueWordsRow : OpenClaim := { program := "ytolnmdanlggmhaa", sum := "b957907aece538dc155304af79c13d8a2695e7404a7f663be8234a6e37bb170f", func := "clockwork/clockworklaw17.QueueWords", spec := "queueWords", apart := false }
def QueueWordsSaid : Prop := queueWordsRow.holds Try.pinned (OpenSpec.ofChange queueWordsSpec)

/-- ITS FALSE NEIGHBOUR: 'it returns false'. Refute it at one input. -/
def queueWordsWrong : ChangeSpec := { name := "queueWords", fn := fun _ => fun
  | [d] => { results := [.lit (.bool false)], args := [d] }
  | _ => none }
def QueueWordsWrongFalsely : Prop := queueWordsRow.holds Try.pinned (OpenSpec.ofChange queueWordsWrong)

/-- 'clockworklaw17.QueueDrains': WHATEVER THE INPUT: true; the input reads as it did. -/
def queueDrainsSpec : ChangeSpec := { name := "queueDrains", fn := fun _ => fun
  | [d1, d2, d3] => { results := [.lit (.bool true)], args := [d1, d2, d3] }
  | _ => none }
def queueDrainsRow : OpenClaim := { program := "ytolnmdanlggmhaa", sum := "b957907aece538dc155304af79c13d8a2695e7404a7f663be8234a6e37bb170f", func := "clockwork/clockworklaw17.QueueDrains", spec := "queueDrains", unfollowed := true, recurses := true, leaving := true, apart := false }
def QueueDrainsSaid : Prop := queueDrainsRow.holds Try.pinned (OpenSpec.ofChange queueDrainsSpec)

/-- ITS FALSE NEIGHBOUR: 'it returns false'. Refute it at one input. -/
def queueDrainsWrong : ChangeSpec := { name := "queueDrains", fn := fun _ => fun
  | [d1, d2, d3] => { results := [.lit (.bool false)], args := [d1, d2, d3] }
  | _ => none }
def QueueDrainsWrongFalsely : Prop := queueDrainsRow.holds Try.pinned (OpenSpec.ofChange queueDrainsWrong)

/-- 'clockworklaw17.QueueMatches': WHATEVER THE INPUT: true; the input reads as it did. -/
def queueMatchesSpec : ChangeSpec := { name := "queueMatches", fn := fun _ => fun
  | [d1, d2] => { results := [.lit (.bool true)], args := [d1, d2] }
  | _ => none }
def queueMatchesRow : OpenClaim := { program := "ytolnmdanlggmhaa", sum := "b957907aece538dc155304af79c13d8a2695e7404a7f663be8234a6e37bb170f", func := "clockwork/clockworklaw17.QueueMatches", spec := "queueMatches", apart := false }
def QueueMatchesSaid : Prop := queueMatchesRow.holds Try.pinned (OpenSpec.ofChange queueMatchesSpec)

/-- ITS FALSE NEIGHBOUR: 'it returns false'. Refute it at one input. -/
def queueMatchesWrong : ChangeSpec := { name := "queueMatches", fn := fun _ => fun
  | [d1, d2] => { results := [.lit (.bool false)], args := [d1, d2] }
  | _ => none }
def QueueMatchesWrongFalsely : Prop := queueMatchesRow.holds Try.pinned (OpenSpec.ofChange queueMatchesWrong)

/-- 'clockworklaw17.QueueKeeps': WHATEVER THE INPUT: true; the input reads as it did. -/
def queueKeepsSpec : ChangeSpec := { name := "queueKeeps", fn := fun _ => fun
  | [d] => { results := [.lit (.bool true)], args := [d] }
  | _ => none }
def queueKeepsRow : OpenClaim := { program := "ytolnmdanlggmhaa", sum := "b957907aece538dc155304af79c13d8a2695e7404a7f663be8234a6e37bb170f", func := "clockwork/clockworklaw17.QueueKeeps", spec := "queueKeeps", unfollowed := true, recurses := true, leaving := true, apart := false }
def QueueKeepsSaid : Prop := queueKeepsRow.holds Try.pinned (OpenSpec.ofChange queueKeepsSpec)

/-- ITS FALSE NEIGHBOUR: 'it returns false'. Refute it at one input. -/
def queueKeepsWrong : ChangeSpec := { name := "queueKeeps", fn := fun _ => fun
  | [d] => { results := [.lit (.bool false)], args := [d] }
  | _ => none }
def QueueKeepsWrongFalsely : Prop := queueKeepsRow.holds Try.pinned (OpenSpec.ofChange queueKeepsWrong)

/-- 'clockworklaw18.CoroTexts': WHATEVER THE INPUT: true; the input reads as it did. -/
def coroTextsSpec : ChangeSpec := { name := "coroTexts", fn := fun _ => fun
  | [d1, d2] => { results := [.lit (.bool true)], args := [d1, d2] }
  | _ => none }
def coroTextsRow : OpenClaim := { program := "ytolnmdanlggmhaa", sum := "b957907aece538dc155304af79c13d8a2695e7404a7f663be8234a6e37bb170f", func := "clockwork/clockworklaw18.CoroTexts", spec := "coroTexts", unfollowed := true, recurses := true, leaving := true, apart := false }
def CoroTextsSaid : Prop := coroTextsRow.holds Try.pinned (OpenSpec.ofChange coroTextsSpec)

/-- ITS FALSE NEIGHBOUR: 'it returns false'. Refute it at one input. -/
def coroTextsWrong : ChangeSpec := { name := "coroTexts", fn := fun _ => fun
  | [d1, d2] => { results := [.lit (.bool false)], args := [d1, d2] }
  | _ => none }
def CoroTextsWrongFalsely : Prop := coroTextsRow.holds Try.pinned (OpenSpec.ofChange coroTextsWrong)

/-- 'clockworklaw18.CoroFair': WHATEVER THE INPUT: true; the input reads as it did. -/
def coroFairSpec : ChangeSpec := { name := "coroFair", fn := fun _ => fun
  | [d] => { results := [.lit (.bool true)], args := [d] }
  | _ => none }
def coroFairRow : OpenClaim := { program := "ytolnmdanlggmhaa", sum := "b957907aece538dc155304af79c13d8a2695e7404a7f663be8234a6e37bb170f", func := "clockwork/clockworklaw18.CoroFair", spec := "coroFair", unfollowed := true, recurses := true, leaving := true, apart := false }
def CoroFairSaid : Prop := coroFairRow.holds Try.pinned (OpenSpec.ofChange coroFairSpec)

/-- ITS FALSE NEIGHBOUR: 'it returns false'. Refute it at one input. -/
def coroFairWrong : ChangeSpec := { name := "coroFair", fn := fun _ => fun
  | [d] => { results := [.lit (.bool false)], args := [d] }
  | _ => none }
def CoroFairWrongFalsely : Prop := coroFairRow.holds Try.pinned (OpenSpec.ofChange coroFairWrong)

/-- 'clockworklaw18.CoroNil': WHATEVER THE INPUT: true; the input reads as it did. -/
def coroNilSpec : ChangeSpec := { name := "coroNil", fn := fun _ => fun
  | [d] => { results := [.lit (.bool true)], args := [d] }
  | _ => none }
def coroNilRow : OpenClaim := { program := "ytolnmdanlggmhaa", sum := "b957907aece538dc155304af79c13d8a2695e7404a7f663be8234a6e37bb170f", func := "clockwork/clockworklaw18.CoroNil", spec := "coroNil", unfollowed := true, recurses := true, leaving := true, apart := false }
def CoroNilSaid : Prop := coroNilRow.holds Try.pinned (OpenSpec.ofChange coroNilSpec)

/-- ITS FALSE NEIGHBOUR: 'it returns false'. Refute it at one input. -/
def coroNilWrong : ChangeSpec := { name := "coroNil", fn := fun _ => fun
  | [d] => { results := [.lit (.bool false)], args := [d] }
  | _ => none }
def CoroNilWrongFalsely : Prop := coroNilRow.holds Try.pinned (OpenSpec.ofChange coroNilWrong)

/-- 'clockworklaw18.CoroMatches': WHATEVER THE INPUT: true; the input reads as it did. -/
def coroMatchesSpec : ChangeSpec := { name := "coroMatches", fn := fun _ => fun
  | [d1, d2, d3] => { results := [.lit (.bool true)], args := [d1, d2, d3] }
  | _ => none }
def coroMatchesRow : OpenClaim := { program := "ytolnmdanlggmhaa", sum := "b957907aece538dc155304af79c13d8a2695e7404a7f663be8234a6e37bb170f", func := "clockwork/clockworklaw18.CoroMatches", spec := "coroMatches", unfollowed := true, recurses := true, leaving := true, apart := false }
def CoroMatchesSaid : Prop := coroMatchesRow.holds Try.pinned (OpenSpec.ofChange coroMatchesSpec)

/-- ITS FALSE NEIGHBOUR: 'it returns false'. Refute it at one input. -/
def coroMatchesWrong : ChangeSpec := { name := "coroMatches", fn := fun _ => fun
  | [d1, d2, d3] => { results := [.lit (.bool false)], args := [d1, d2, d3] }
  | _ => none }
def CoroMatchesWrongFalsely : Prop := coroMatchesRow.holds Try.pinned (OpenSpec.ofChange coroMatchesWrong)

/-- 'clockworklaw18.CoroCloses': WHATEVER THE INPUT: true; the input reads as it did. -/
def coroClosesSpec : ChangeSpec := { name := "coroCloses", fn := fun _ => fun
  | [d1, d2, d3] => { results := [.lit (.bool true)], args := [d1, d2, d3] }
  | _ => none }
def coroClosesRow : OpenClaim := { program := "ytolnmdanlggmhaa", sum := "b957907aece538dc155304af79c13d8a2695e7404a7f663be8234a6e37bb170f", func := "clockwork/clockworklaw18.CoroCloses", spec := "coroCloses", unfollowed := true, recurses := true, leaving := true, apart := false }
def CoroClosesSaid : Prop := coroClosesRow.holds Try.pinned (OpenSpec.ofChange coroClosesSpec)

/-- ITS FALSE NEIGHBOUR: 'it returns false'. Refute it at one input. -/
def coroClosesWrong : ChangeSpec := { name := "coroCloses", fn := fun _ => fun
  | [d1, d2, d3] => { results := [.lit (.bool false)], args := [d1, d2, d3] }
  | _ => none }
def CoroClosesWrongFalsely : Prop := coroClosesRow.holds Try.pinned (OpenSpec.ofChange coroClosesWrong)

/-- 'clockworklaw18.CoroDefers': WHATEVER THE INPUT: true; the input reads as it did. -/
def coroDefersSpec : ChangeSpec := { name := "coroDefers", fn := fun _ => fun
  | [d] => { results := [.lit (.bool true)], args := [d] }
  | _ => none }
def coroDefersRow : OpenClaim := { program := "ytolnmdanlggmhaa", sum := "b957907aece538dc155304af79c13d8a2695e7404a7f663be8234a6e37bb170f", func := "clockwork/clockworklaw18.CoroDefers", spec := "coroDefers", unfollowed := true, recurses := true, leaving := true, apart := false }
def CoroDefersSaid : Prop := coroDefersRow.holds Try.pinned (OpenSpec.ofChange coroDefersSpec)

/-- ITS FALSE NEIGHBOUR: 'it returns false'. Refute it at one input. -/
def coroDefersWrong : ChangeSpec := { name := "coroDefers", fn := fun _ => fun
  | [d] => { results := [.lit (.bool false)], args := [d] }
  | _ => none }
def CoroDefersWrongFalsely : Prop := coroDefersRow.holds Try.pinned (OpenSpec.ofChange coroDefersWrong)

/- THE SECOND FORM. 'bulk': how many values and letters a reading holds, each counted each time it is reached (what is shared counts as often as it is met; a slice's spare places count too). A statement '..UptoSaid' is the law's where the arguments, and the package variables that the reading takes, are together of bulk at most 1048576: NARROWER than '..Said'. Prove '..Said' where nothing that the law and all that it calls make is longer than what came in: it says more and counts as full. Else prove '..UptoSaid'. A law counts once. -/
mutual
def uptoBulk {H : Type} : DataW H → Nat
  | .lit (.string bytes) => bytes.length + 1
  | .lit _ => 1
  | .nil => 1
  | .ptr d => uptoBulk d + 1
  | .slice elems spare => uptoBulkAll elems + uptoBulkAll spare + 1
  | .agg parts => uptoBulkAll parts + 1
  | .iface _ d => uptoBulk d + 1
  | .map entries => uptoBulkEntries entries + 1
  | .held _ => 1
def uptoBulkAll {H : Type} : List (DataW H) → Nat
  | [] => 0
  | d :: r => uptoBulk d + uptoBulkAll r
def uptoBulkEntries {H : Type} : List (Lit × DataW H) → Nat
  | [] => 0
  | x :: r => uptoBulkEntry x + uptoBulkEntries r
def uptoBulkEntry {H : Type} : Lit × DataW H → Nat
  | (.string bytes, d) => bytes.length + uptoBulk d + 1
  | (_, d) => uptoBulk d + 1
 end
def uptoSmall : (H : Type) → List (DataW H) → Bool := fun _ ds => decide (uptoBulkAll ds ≤ 1048576)
def OpenSpec.upto (s : _root_.Go.ChangeSpec) : _root_.Go.OpenSpec := { _root_.Go.OpenSpec.ofChange s with cond := some uptoSmall }

/-- 'clockworklaw17.QueueOrders', WHERE WHAT IT READS IS OF BULK AT MOST 1048576: true; the input reads as it did. -/
def queueOrdersUptoRow : OpenClaim := { program := "ytolnmdanlggmhaa", sum := "b957907aece538dc155304af79c13d8a2695e7404a7f663be8234a6e37bb170f", func := "clockwork/clockworklaw17.QueueOrders", spec := "queueOrders", apart := false, narrowed := true }
def QueueOrdersUptoSaid : Prop := queueOrdersUptoRow.holds Try.pinned (OpenSpec.upto queueOrdersSpec)

/-- 'clockworklaw17.QueueWords', WHERE WHAT IT READS IS OF BULK AT MOST 1048576: true; the input reads as it did. -/
def queueWordsUptoRow : OpenClaim := { program := "ytolnmdanlggmhaa", sum := "b957907aece538dc155304af79c13d8a2695e7404a7f663be8234a6e37bb170f", func := "clockwork/clockworklaw17.QueueWords", spec := "queueWords", apart := false, narrowed := true }
def QueueWordsUptoSaid : Prop := queueWordsUptoRow.holds Try.pinned (OpenSpec.upto queueWordsSpec)

/-- 'clockworklaw17.QueueDrains', WHERE WHAT IT READS IS OF BULK AT MOST 1048576: true; the input reads as it did. -/
def queueDrainsUptoRow : OpenClaim := { program := "ytolnmdanlggmhaa", sum := "b957907aece538dc155304af79c13d8a2695e7404a7f663be8234a6e37bb170f", func := "clockwork/clockworklaw17.QueueDrains", spec := "queueDrains", unfollowed := true, recurses := true, leaving := true, apart := false, narrowed := true }
def QueueDrainsUptoSaid : Prop := queueDrainsUptoRow.holds Try.pinned (OpenSpec.upto queueDrainsSpec)

/-- 'clockworklaw17.QueueMatches', WHERE WHAT IT READS IS OF BULK AT MOST 1048576: true; the input reads as it did. -/
def queueMatchesUptoRow : OpenClaim := { program := "ytolnmdanlggmhaa", sum := "b957907aece538dc155304af79c13d8a2695e7404a7f663be8234a6e37bb170f", func := "clockwork/clockworklaw17.QueueMatches", spec := "queueMatches", apart := false, narrowed := true }
def QueueMatchesUptoSaid : Prop := queueMatchesUptoRow.holds Try.pinned (OpenSpec.upto queueMatchesSpec)

/-- 'clockworklaw17.QueueKeeps', WHERE WHAT IT READS IS OF BULK AT MOST 1048576: true; the input reads as it did. -/
def queueKeepsUptoRow : OpenClaim := { program := "ytolnmdanlggmhaa", sum := "b957907aece538dc155304af79c13d8a2695e7404a7f663be8234a6e37bb170f", func := "clockwork/clockworklaw17.QueueKeeps", spec := "queueKeeps", unfollowed := true, recurses := true, leaving := true, apart := false, narrowed := true }
def QueueKeepsUptoSaid : Prop := queueKeepsUptoRow.holds Try.pinned (OpenSpec.upto queueKeepsSpec)

/-- 'clockworklaw18.CoroTexts', WHERE WHAT IT READS IS OF BULK AT MOST 1048576: true; the input reads as it did. -/
def coroTextsUptoRow : OpenClaim := { program := "ytolnmdanlggmhaa", sum := "b957907aece538dc155304af79c13d8a2695e7404a7f663be8234a6e37bb170f", func := "clockwork/clockworklaw18.CoroTexts", spec := "coroTexts", unfollowed := true, recurses := true, leaving := true, apart := false, narrowed := true }
def CoroTextsUptoSaid : Prop := coroTextsUptoRow.holds Try.pinned (OpenSpec.upto coroTextsSpec)

/-- 'clockworklaw18.CoroFair', WHERE WHAT IT READS IS OF BULK AT MOST 1048576: true; the input reads as it did. -/
def coroFairUptoRow : OpenClaim := { program := "ytolnmdanlggmhaa", sum := "b957907aece538dc155304af79c13d8a2695e7404a7f663be8234a6e37bb170f", func := "clockwork/clockworklaw18.CoroFair", spec := "coroFair", unfollowed := true, recurses := true, leaving := true, apart := false, narrowed := true }
def CoroFairUptoSaid : Prop := coroFairUptoRow.holds Try.pinned (OpenSpec.upto coroFairSpec)

/-- 'clockworklaw18.CoroNil', WHERE WHAT IT READS IS OF BULK AT MOST 1048576: true; the input reads as it did. -/
def coroNilUptoRow : OpenClaim := { program := "ytolnmdanlggmhaa", sum := "b957907aece538dc155304af79c13d8a2695e7404a7f663be8234a6e37bb170f", func := "clockwork/clockworklaw18.CoroNil", spec := "coroNil", unfollowed := true, recurses := true, leaving := true, apart := false, narrowed := true }
def CoroNilUptoSaid : Prop := coroNilUptoRow.holds Try.pinned (OpenSpec.upto coroNilSpec)

/-- 'clockworklaw18.CoroMatches', WHERE WHAT IT READS IS OF BULK AT MOST 1048576: true; the input reads as it did. -/
def coroMatchesUptoRow : OpenClaim := { program := "ytolnmdanlggmhaa", sum := "b957907aece538dc155304af79c13d8a2695e7404a7f663be8234a6e37bb170f", func := "clockwork/clockworklaw18.CoroMatches", spec := "coroMatches", unfollowed := true, recurses := true, leaving := true, apart := false, narrowed := true }
def CoroMatchesUptoSaid : Prop := coroMatchesUptoRow.holds Try.pinned (OpenSpec.upto coroMatchesSpec)

/-- 'clockworklaw18.CoroCloses', WHERE WHAT IT READS IS OF BULK AT MOST 1048576: true; the input reads as it did. -/
def coroClosesUptoRow : OpenClaim := { program := "ytolnmdanlggmhaa", sum := "b957907aece538dc155304af79c13d8a2695e7404a7f663be8234a6e37bb170f", func := "clockwork/clockworklaw18.CoroCloses", spec := "coroCloses", unfollowed := true, recurses := true, leaving := true, apart := false, narrowed := true }
def CoroClosesUptoSaid : Prop := coroClosesUptoRow.holds Try.pinned (OpenSpec.upto coroClosesSpec)

/-- 'clockworklaw18.CoroDefers', WHERE WHAT IT READS IS OF BULK AT MOST 1048576: true; the input reads as it did. -/
def coroDefersUptoRow : OpenClaim := { program := "ytolnmdanlggmhaa", sum := "b957907aece538dc155304af79c13d8a2695e7404a7f663be8234a6e37bb170f", func := "clockwork/clockworklaw18.CoroDefers", spec := "coroDefers", unfollowed := true, recurses := true, leaving := true, apart := false, narrowed := true }
def CoroDefersUptoSaid : Prop := coroDefersUptoRow.holds Try.pinned (OpenSpec.upto coroDefersSpec)

end Rows
end Go.Proofs.Ytolnmdanlggmhaa
