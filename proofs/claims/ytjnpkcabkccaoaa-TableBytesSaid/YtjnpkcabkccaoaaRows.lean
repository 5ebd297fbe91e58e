/-
  No cell of these rows narrows 'for every input' (looked for: loops, veiled, ifaces, maps, wideKeys, modest, calm, conditions, laid).
  DERIVED. THE GIVEN ROWS OF THIS SEAT. 9 by the template 'for every input the law returns true; each argument reads behind the call as it read before'; 0 by the template 'total and deterministic' (their statements: YtjnpkcabkccaoaaTotals.lean).
  GIVEN WITH THE SEED: the statements are not yours to turn. If you find one false, say at which input.
  Laid BY PROGRAM, IN A SANDBOX (cutbox-rows.mjs): the forced cells as the released guide's own fill.sh prints them over the translation 7d6af660603060e2… (all of the seat's roots in one cut). By AI agents, Wed Nov 11 2026. No macro, syntax, notation, axiom, sorry.
-/
import Derived.Test.YtjnpkcabkccaoaaChecked
import GoSem.Claim
import GoSem.ClaimJoined
import GoSem.ClaimMapViews
import Derived.JoinedTies
import Derived.KernelRfl
namespace Go.Proofs.Ytjnpkcabkccaoaa
/- THE CELL 'sum', in the pinned program and in every row, IS THE sha256 OF THE DUMP (.gsa) THAT YtjnpkcabkccaoaaProg.lean LOADS. Nothing in Lean hashes anything: it is a label: what it is worth is what the hold of that sum in a sandbox is worth. -/
noncomputable def Try.pinned : Pinned := { name := "ytjnpkcabkccaoaa", sum := "7d6af660603060e2d73bb0cb45fb018c56f3fe08a690b9eedf914e6aa02d37a5", checked := Try.checked }
namespace Rows
def none {H : Type} : Left H := { results := [], args := [] }

/-- 'bynamelaw13.SlabRuns': WHATEVER THE INPUT: true; the input reads as it did. -/
def slabRunsSpec : ChangeSpec := { name := "slabRuns", fn := fun _ => fun
  | [d1, d2] => { results := [.lit (.bool true)], args := [d1, d2] }
  | _ => none }
def slabRunsRow : OpenClaim := { program := "ytjnpkcabkccaoaa", sum := "7d6af660603060e2d73bb0cb45fb018c56f3fe08a690b9eedf914e6aa02d37a5", func := "byname/bynamelaw13.SlabRuns", spec := "slabRuns", plainKeys := false, apart := false }
def SlabRunsSaid : Prop := slabRunsRow.holds Try.pinned (OpenSpec.ofChange slabRunsSpec)

/-- ITS FALSE NEIGHBOUR: 'it returns false'. Refute it at one input. -/
def slabRunsWrong : ChangeSpec := { name := "slabRuns", fn := fun _ => fun
  | [d1, d2] => { results := [.lit (.bool false)], args := [d1, d2] }
  | _ => none }
def SlabRunsWrongFalsely : Prop := slabRunsRow.holds Try.pinned (OpenSpec.ofChange slabRunsWrong)

/-- 'bynamelaw06.PieceReads': WHATEVER THE INPUT: true; the input reads as it did. -/
def pieceReadsSpec : ChangeSpec := { name := "pieceReads", fn := fun _ => fun
  | [d1, d2] => { results := [.lit (.bool true)], args := [d1, d2] }
  | _ => none }
def pieceReadsRow : OpenClaim := { program := "ytjnpkcabkccaoaa", sum := "7d6af660603060e2d73bb0cb45fb018c56f3fe08a690b9eedf914e6aa02d37a5", func := "byname/bynamelaw06.PieceReads", spec := "pieceReads", unfollowed := true, recurses := true, plainKeys := false, apart := false }
def PieceReadsSaid : Prop := pieceReadsRow.holds Try.pinned (OpenSpec.ofChange pieceReadsSpec)

/-- ITS FALSE NEIGHBOUR: 'it returns false'. Refute it at one input. -/
def pieceReadsWrong : ChangeSpec := { name := "pieceReads", fn := fun _ => fun
  | [d1, d2] => { results := [.lit (.bool false)], args := [d1, d2] }
  | _ => none }
def PieceReadsWrongFalsely : Prop := pieceReadsRow.holds Try.pinned (OpenSpec.ofChange pieceReadsWrong)

/-- 'bynamelaw10.TxBytes': WHATEVER THE INPUT: true; the input reads as it did. -/
def txBytesSpec : ChangeSpec := { name := "txBytes", fn := fun _ => fun
  | [d1, d2, d3] => { results := [.lit (.bool true)], args := [d1, d2, d3] }
  | _ => none }
def txBytesRow : OpenClaim := { program := "ytjnpkcabkccaoaa", sum := "7d6af660603060e2d73bb0cb45fb018c56f3fe08a690b9eedf914e6aa02d37a5", func := "byname/bynamelaw10.TxBytes", spec := "txBytes", unfollowed := true, recurses := true, plainKeys := false, apart := false }
def TxBytesSaid : Prop := txBytesRow.holds Try.pinned (OpenSpec.ofChange txBytesSpec)

/-- ITS FALSE NEIGHBOUR: 'it returns false'. Refute it at one input. -/
def txBytesWrong : ChangeSpec := { name := "txBytes", fn := fun _ => fun
  | [d1, d2, d3] => { results := [.lit (.bool false)], args := [d1, d2, d3] }
  | _ => none }
def TxBytesWrongFalsely : Prop := txBytesRow.holds Try.pinned (OpenSpec.ofChange txBytesWrong)

/-- 'bynamelaw14.ChainlogNames': WHATEVER THE INPUT: true; the input reads as it did. -/
def chainlogNamesSpec : ChangeSpec := { name := "chainlogNames", fn := fun _ => fun
  | [] => { results := [.lit (.bool true)], args := [] }
  | _ => none }
def chainlogNamesRow : OpenClaim := { program := "ytjnpkcabkccaoaa", sum := "7d6af660603060e2d73bb0cb45fb018c56f3fe08a690b9eedf914e6aa02d37a5", func := "byname/bynamelaw14.ChainlogNames", spec := "chainlogNames", unfollowed := true, recurses := true, plainKeys := false, apart := false }
def ChainlogNamesSaid : Prop := chainlogNamesRow.holds Try.pinned (OpenSpec.ofChange chainlogNamesSpec)

/-- ITS FALSE NEIGHBOUR: 'it returns false'. Refute it at one input. -/
def chainlogNamesWrong : ChangeSpec := { name := "chainlogNames", fn := fun _ => fun
  | [] => { results := [.lit (.bool false)], args := [] }
  | _ => none }
def ChainlogNamesWrongFalsely : Prop := chainlogNamesRow.holds Try.pinned (OpenSpec.ofChange chainlogNamesWrong)

/-- 'bynamelaw14.ChainlogAgain': WHATEVER THE INPUT: true; the input reads as it did. -/
def chainlogAgainSpec : ChangeSpec := { name := "chainlogAgain", fn := fun _ => fun
  | [d1, d2] => { results := [.lit (.bool true)], args := [d1, d2] }
  | _ => none }
def chainlogAgainRow : OpenClaim := { program := "ytjnpkcabkccaoaa", sum := "7d6af660603060e2d73bb0cb45fb018c56f3fe08a690b9eedf914e6aa02d37a5", func := "byname/bynamelaw14.ChainlogAgain", spec := "chainlogAgain", unfollowed := true, recurses := true, plainKeys := false, apart := false }
def ChainlogAgainSaid : Prop := chainlogAgainRow.holds Try.pinned (OpenSpec.ofChange chainlogAgainSpec)

/-- ITS FALSE NEIGHBOUR: 'it returns false'. Refute it at one input. -/
def chainlogAgainWrong : ChangeSpec := { name := "chainlogAgain", fn := fun _ => fun
  | [d1, d2] => { results := [.lit (.bool false)], args := [d1, d2] }
  | _ => none }
def ChainlogAgainWrongFalsely : Prop := chainlogAgainRow.holds Try.pinned (OpenSpec.ofChange chainlogAgainWrong)

/-- 'bynamelaw15.TableNames': WHATEVER THE INPUT: true; the input reads as it did. -/
def tableNamesSpec : ChangeSpec := { name := "tableNames", fn := fun _ => fun
  | [] => { results := [.lit (.bool true)], args := [] }
  | _ => none }
def tableNamesRow : OpenClaim := { program := "ytjnpkcabkccaoaa", sum := "7d6af660603060e2d73bb0cb45fb018c56f3fe08a690b9eedf914e6aa02d37a5", func := "byname/bynamelaw15.TableNames", spec := "tableNames", inPlace := ["internal/bytealg.Compare"], unfollowed := true, recurses := true, plainKeys := false, apart := false }
def TableNamesSaid : Prop := tableNamesRow.holds Try.pinned (OpenSpec.ofChange tableNamesSpec)

/-- ITS FALSE NEIGHBOUR: 'it returns false'. Refute it at one input. -/
def tableNamesWrong : ChangeSpec := { name := "tableNames", fn := fun _ => fun
  | [] => { results := [.lit (.bool false)], args := [] }
  | _ => none }
def TableNamesWrongFalsely : Prop := tableNamesRow.holds Try.pinned (OpenSpec.ofChange tableNamesWrong)

/-- 'bynamelaw15.TableBytes': WHATEVER THE INPUT: true; the input reads as it did. -/
def tableBytesSpec : ChangeSpec := { name := "tableBytes", fn := fun _ => fun
  | [d1, d2] => { results := [.lit (.bool true)], args := [d1, d2] }
  | _ => none }
def tableBytesRow : OpenClaim := { program := "ytjnpkcabkccaoaa", sum := "7d6af660603060e2d73bb0cb45fb018c56f3fe08a690b9eedf914e6aa02d37a5", func := "byname/bynamelaw15.TableBytes", spec := "tableBytes", inPlace := ["internal/bytealg.Compare"], unfollowed := true, recurses := true, plainKeys := false, apart := false }
def TableBytesSaid : Prop := tableBytesRow.holds Try.pinned (OpenSpec.ofChange tableBytesSpec)

/-- ITS FALSE NEIGHBOUR: 'it returns false'. Refute it at one input. -/
def tableBytesWrong : ChangeSpec := { name := "tableBytes", fn := fun _ => fun
  | [d1, d2] => { results := [.lit (.bool false)], args := [d1, d2] }
  | _ => none }
def TableBytesWrongFalsely : Prop := tableBytesRow.holds Try.pinned (OpenSpec.ofChange tableBytesWrong)

/-- 'bynamelaw15.TableMerges': WHATEVER THE INPUT: true; the input reads as it did. -/
def tableMergesSpec : ChangeSpec := { name := "tableMerges", fn := fun _ => fun
  | [d1, d2] => { results := [.lit (.bool true)], args := [d1, d2] }
  | _ => none }
def tableMergesRow : OpenClaim := { program := "ytjnpkcabkccaoaa", sum := "7d6af660603060e2d73bb0cb45fb018c56f3fe08a690b9eedf914e6aa02d37a5", func := "byname/bynamelaw15.TableMerges", spec := "tableMerges", inPlace := ["internal/bytealg.Compare"], unfollowed := true, recurses := true, plainKeys := false, apart := false }
def TableMergesSaid : Prop := tableMergesRow.holds Try.pinned (OpenSpec.ofChange tableMergesSpec)

/-- ITS FALSE NEIGHBOUR: 'it returns false'. Refute it at one input. -/
def tableMergesWrong : ChangeSpec := { name := "tableMerges", fn := fun _ => fun
  | [d1, d2] => { results := [.lit (.bool false)], args := [d1, d2] }
  | _ => none }
def TableMergesWrongFalsely : Prop := tableMergesRow.holds Try.pinned (OpenSpec.ofChange tableMergesWrong)

/-- 'bynamelaw15.TableAsks': WHATEVER THE INPUT: true; the input reads as it did. -/
def tableAsksSpec : ChangeSpec := { name := "tableAsks", fn := fun _ => fun
  | [d1, d2] => { results := [.lit (.bool true)], args := [d1, d2] }
  | _ => none }
def tableAsksRow : OpenClaim := { program := "ytjnpkcabkccaoaa", sum := "7d6af660603060e2d73bb0cb45fb018c56f3fe08a690b9eedf914e6aa02d37a5", func := "byname/bynamelaw15.TableAsks", spec := "tableAsks", inPlace := ["internal/bytealg.Compare"], unfollowed := true, recurses := true, plainKeys := false, apart := false }
def TableAsksSaid : Prop := tableAsksRow.holds Try.pinned (OpenSpec.ofChange tableAsksSpec)

/-- ITS FALSE NEIGHBOUR: 'it returns false'. Refute it at one input. -/
def tableAsksWrong : ChangeSpec := { name := "tableAsks", fn := fun _ => fun
  | [d1, d2] => { results := [.lit (.bool false)], args := [d1, d2] }
  | _ => none }
def TableAsksWrongFalsely : Prop := tableAsksRow.holds Try.pinned (OpenSpec.ofChange tableAsksWrong)

/- THE SECOND FORM. 'bulk': how many values and letters a reading holds, each counted each time it is reached (what is shared counts as often as it is met; a slice's spare places count too). A statement '..UptoSaid' is the law's where the arguments, and the package variables that the reading takes, are together of bulk at most 1048576: NARROWER than '..Said'. Prove '..Said' where nothing that the law and all that it calls make is longer than what came in: it says more and counts as full. Else prove '..UptoSaid'. A law counts once. -/
mutual
def uptoBulk {H : Type} : DataW H → Nat
  | .lit (.string bytes) => bytes.length + 1
  | .lit _ => 1
  | .nil => 1
  | .ptr d => uptoBulk d + 1
  | .slice elems spare => uptoBulkAll elems + uptoBulkAll spare + 1
  | .agg parts => uptoBulkAll parts + 1
  | .iface _ d => uptoBulk d + 1
  | .map entries => uptoBulkEntries entries + 1
  | .held _ => 1
def uptoBulkAll {H : Type} : List (DataW H) → Nat
  | [] => 0
  | d :: r => uptoBulk d + uptoBulkAll r
def uptoBulkEntries {H : Type} : List (Lit × DataW H) → Nat
  | [] => 0
  | x :: r => uptoBulkEntry x + uptoBulkEntries r
def uptoBulkEntry {H : Type} : Lit × DataW H → Nat
  | (.string bytes, d) => bytes.length + uptoBulk d + 1
  | (_, d) => uptoBulk d + 1
 end
def uptoSmall : (H : Type) → List (DataW H) → Bool := fun _ ds => decide (uptoBulkAll ds ≤ 1048576)
def OpenSpec.upto (s : _root_.Go.ChangeSpec) : _root_.Go.OpenSpec := { _root_.Go.OpenSpec.ofChange s with cond := some uptoSmall }

/-- 'bynamelaw13.SlabRuns', WHERE WHAT IT READS IS OF BULK AT MOST 1048576: true; the input reads as it did. -/
def slabRunsUptoRow : OpenClaim := { program := "ytjnpkcabkccaoaa", sum := "7d6af660603060e2d73bb0cb45fb018c56f3fe08a690b9eedf914e6aa02d37a5", func := "byname/bynamelaw13.SlabRuns", spec := "slabRuns", plainKeys := false, apart := false, narrowed := true }
def SlabRunsUptoSaid : Prop := slabRunsUptoRow.holds Try.pinned (OpenSpec.upto slabRunsSpec)

/-- 'bynamelaw06.PieceReads', WHERE WHAT IT READS IS OF BULK AT MOST 1048576: true; the input reads as it did. -/
def pieceReadsUptoRow : OpenClaim := { program := "ytjnpkcabkccaoaa", sum := "7d6af660603060e2d73bb0cb45fb018c56f3fe08a690b9eedf914e6aa02d37a5", func := "byname/bynamelaw06.PieceReads", spec := "pieceReads", unfollowed := true, recurses := true, plainKeys := false, apart := false, narrowed := true }
def PieceReadsUptoSaid : Prop := pieceReadsUptoRow.holds Try.pinned (OpenSpec.upto pieceReadsSpec)

/-- 'bynamelaw10.TxBytes', WHERE WHAT IT READS IS OF BULK AT MOST 1048576: true; the input reads as it did. -/
def txBytesUptoRow : OpenClaim := { program := "ytjnpkcabkccaoaa", sum := "7d6af660603060e2d73bb0cb45fb018c56f3fe08a690b9eedf914e6aa02d37a5", func := "byname/bynamelaw10.TxBytes", spec := "txBytes", unfollowed := true, recurses := true, plainKeys := false, apart := false, narrowed := true }
def TxBytesUptoSaid : Prop := txBytesUptoRow.holds Try.pinned (OpenSpec.upto txBytesSpec)

/-- 'bynamelaw14.ChainlogNames', WHERE WHAT IT READS IS OF BULK AT MOST 1048576: true; the input reads as it did. -/
def chainlogNamesUptoRow : OpenClaim := { program := "ytjnpkcabkccaoaa", sum := "7d6af660603060e2d73bb0cb45fb018c56f3fe08a690b9eedf914e6aa02d37a5", func := "byname/bynamelaw14.ChainlogNames", spec := "chainlogNames", unfollowed := true, recurses := true, plainKeys := false, apart := false, narrowed := true }
def ChainlogNamesUptoSaid : Prop := chainlogNamesUptoRow.holds Try.pinned (OpenSpec.upto chainlogNamesSpec)

/-- 'bynamelaw14.ChainlogAgain', WHERE WHAT IT READS IS OF BULK AT MOST 1048576: true; the input reads as it did. -/
def chainlogAgainUptoRow : OpenClaim := { program := "ytjnpkcabkccaoaa", sum := "7d6af660603060e2d73bb0cb45fb018c56f3fe08a690b9eedf914e6aa02d37a5", func := "byname/bynamelaw14.ChainlogAgain", spec := "chainlogAgain", unfollowed := true, recurses := true, plainKeys := false, apart := false, narrowed := true }
def ChainlogAgainUptoSaid : Prop := chainlogAgainUptoRow.holds Try.pinned (OpenSpec.upto chainlogAgainSpec)

/-- 'bynamelaw15.TableNames', WHERE WHAT IT READS IS OF BULK AT MOST 1048576: true; the input reads as it did. -/
def tableNamesUptoRow : OpenClaim := { program := "ytjnpkcabkccaoaa", sum := "7d6af660603060e2d73bb0cb45fb018c56f3fe08a690b9eedf914e6aa02d37a5", func := "byname/bynamelaw15.TableNames", spec := "tableNames", inPlace := ["internal/bytealg.Compare"], unfollowed := true, recurses := true, plainKeys := false, apart := false, narrowed := true }
def TableNamesUptoSaid : Prop := tableNamesUptoRow.holds Try.pinned (OpenSpec.upto tableNamesSpec)

/-- 'bynamelaw15.TableBytes', WHERE WHAT IT READS IS OF BULK AT MOST 1048576: true; the input reads as it did. -/
def tableBytesUptoRow : OpenClaim := { program := "ytjnpkcabkccaoaa", sum := "7d6af660603060e2d73bb0cb45fb018c56f3fe08a690b9eedf914e6aa02d37a5", func := "byname/bynamelaw15.TableBytes", spec := "tableBytes", inPlace := ["internal/bytealg.Compare"], unfollowed := true, recurses := true, plainKeys := false, apart := false, narrowed := true }
def TableBytesUptoSaid : Prop := tableBytesUptoRow.holds Try.pinned (OpenSpec.upto tableBytesSpec)

/-- 'bynamelaw15.TableMerges', WHERE WHAT IT READS IS OF BULK AT MOST 1048576: true; the input reads as it did. -/
def tableMergesUptoRow : OpenClaim := { program := "ytjnpkcabkccaoaa", sum := "7d6af660603060e2d73bb0cb45fb018c56f3fe08a690b9eedf914e6aa02d37a5", func := "byname/bynamelaw15.TableMerges", spec := "tableMerges", inPlace := ["internal/bytealg.Compare"], unfollowed := true, recurses := true, plainKeys := false, apart := false, narrowed := true }
def TableMergesUptoSaid : Prop := tableMergesUptoRow.holds Try.pinned (OpenSpec.upto tableMergesSpec)

/-- 'bynamelaw15.TableAsks', WHERE WHAT IT READS IS OF BULK AT MOST 1048576: true; the input reads as it did. -/
def tableAsksUptoRow : OpenClaim := { program := "ytjnpkcabkccaoaa", sum := "7d6af660603060e2d73bb0cb45fb018c56f3fe08a690b9eedf914e6aa02d37a5", func := "byname/bynamelaw15.TableAsks", spec := "tableAsks", inPlace := ["internal/bytealg.Compare"], unfollowed := true, recurses := true, plainKeys := false, apart := false, narrowed := true }
def TableAsksUptoSaid : Prop := tableAsksUptoRow.holds Try.pinned (OpenSpec.upto tableAsksSpec)

end Rows
end Go.Proofs.Ytjnpkcabkccaoaa
