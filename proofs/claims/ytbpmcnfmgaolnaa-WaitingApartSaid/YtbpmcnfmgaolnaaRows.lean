/-
  No cell of these rows narrows 'for every input' (looked for: loops, veiled, ifaces, maps, wideKeys, modest, calm, conditions, laid).
  DERIVED. THE GIVEN ROWS OF THIS SEAT. 12 by the template 'for every input the law returns true; each argument reads behind the call as it read before'; 0 by the template 'total and deterministic' (their statements: YtbpmcnfmgaolnaaTotals.lean).
  GIVEN WITH THE SEED: the statements are not yours to turn. If you find one false, say at which input.
  Laid BY PROGRAM, IN A SANDBOX (cutbox-rows.mjs): the forced cells as the released guide's own fill.sh prints them over the translation 5c4495e6da595acc… (all of the seat's roots in one cut). By AI agents, Wed Nov 11 2026. No macro, syntax, notation, axiom, sorry.
-/
import Derived.Test.YtbpmcnfmgaolnaaChecked
import GoSem.Claim
import GoSem.ClaimJoined
import GoSem.ClaimMapViews
import Derived.JoinedTies
import Derived.KernelRfl
namespace Go.Proofs.Ytbpmcnfmgaolnaa
/- THE CELL 'sum', in the pinned program and in every row, IS THE sha256 OF THE DUMP (.gsa) THAT YtbpmcnfmgaolnaaProg.lean LOADS. Nothing in Lean hashes anything: it is a label: what it is worth is what the hold of that sum in a sandbox is worth. -/
noncomputable def Try.pinned : Pinned := { name := "ytbpmcnfmgaolnaa", sum := "5c4495e6da595acc76fe2eff6616e5e5998eacf5cb72f024e1802d7c2db545ec", checked := Try.checked }
namespace Rows
def none {H : Type} : Left H := { results := [], args := [] }

/-- 'bynamelaw22.WaitingRuns': WHATEVER THE INPUT: true; the input reads as it did. -/
def waitingRunsSpec : ChangeSpec := { name := "waitingRuns", fn := fun _ => fun
  | [d] => { results := [.lit (.bool true)], args := [d] }
  | _ => none }
def waitingRunsRow : OpenClaim := { program := "ytbpmcnfmgaolnaa", sum := "5c4495e6da595acc76fe2eff6616e5e5998eacf5cb72f024e1802d7c2db545ec", func := "byname/bynamelaw22.WaitingRuns", spec := "waitingRuns", unfollowed := true, recurses := true, plainKeys := false, apart := false }
def WaitingRunsSaid : Prop := waitingRunsRow.holds Try.pinned (OpenSpec.ofChange waitingRunsSpec)

/-- ITS FALSE NEIGHBOUR: 'it returns false'. Refute it at one input. -/
def waitingRunsWrong : ChangeSpec := { name := "waitingRuns", fn := fun _ => fun
  | [d] => { results := [.lit (.bool false)], args := [d] }
  | _ => none }
def WaitingRunsWrongFalsely : Prop := waitingRunsRow.holds Try.pinned (OpenSpec.ofChange waitingRunsWrong)

/-- 'bynamelaw22.WaitingLast': WHATEVER THE INPUT: true; the input reads as it did. -/
def waitingLastSpec : ChangeSpec := { name := "waitingLast", fn := fun _ => fun
  | [d] => { results := [.lit (.bool true)], args := [d] }
  | _ => none }
def waitingLastRow : OpenClaim := { program := "ytbpmcnfmgaolnaa", sum := "5c4495e6da595acc76fe2eff6616e5e5998eacf5cb72f024e1802d7c2db545ec", func := "byname/bynamelaw22.WaitingLast", spec := "waitingLast", unfollowed := true, recurses := true, plainKeys := false, apart := false }
def WaitingLastSaid : Prop := waitingLastRow.holds Try.pinned (OpenSpec.ofChange waitingLastSpec)

/-- ITS FALSE NEIGHBOUR: 'it returns false'. Refute it at one input. -/
def waitingLastWrong : ChangeSpec := { name := "waitingLast", fn := fun _ => fun
  | [d] => { results := [.lit (.bool false)], args := [d] }
  | _ => none }
def WaitingLastWrongFalsely : Prop := waitingLastRow.holds Try.pinned (OpenSpec.ofChange waitingLastWrong)

/-- 'bynamelaw22.WaitingApart': WHATEVER THE INPUT: true; the input reads as it did. -/
def waitingApartSpec : ChangeSpec := { name := "waitingApart", fn := fun _ => fun
  | [d] => { results := [.lit (.bool true)], args := [d] }
  | _ => none }
def waitingApartRow : OpenClaim := { program := "ytbpmcnfmgaolnaa", sum := "5c4495e6da595acc76fe2eff6616e5e5998eacf5cb72f024e1802d7c2db545ec", func := "byname/bynamelaw22.WaitingApart", spec := "waitingApart", unfollowed := true, recurses := true, plainKeys := false, apart := false }
def WaitingApartSaid : Prop := waitingApartRow.holds Try.pinned (OpenSpec.ofChange waitingApartSpec)

/-- ITS FALSE NEIGHBOUR: 'it returns false'. Refute it at one input. -/
def waitingApartWrong : ChangeSpec := { name := "waitingApart", fn := fun _ => fun
  | [d] => { results := [.lit (.bool false)], args := [d] }
  | _ => none }
def WaitingApartWrongFalsely : Prop := waitingApartRow.holds Try.pinned (OpenSpec.ofChange waitingApartWrong)

/-- 'bynamelaw11.BlockRoots': WHATEVER THE INPUT: true; the input reads as it did. -/
def blockRootsSpec : ChangeSpec := { name := "blockRoots", fn := fun _ => fun
  | [d] => { results := [.lit (.bool true)], args := [d] }
  | _ => none }
def blockRootsRow : OpenClaim := { program := "ytbpmcnfmgaolnaa", sum := "5c4495e6da595acc76fe2eff6616e5e5998eacf5cb72f024e1802d7c2db545ec", func := "byname/bynamelaw11.BlockRoots", spec := "blockRoots", unfollowed := true, recurses := true, plainKeys := false, apart := false }
def BlockRootsSaid : Prop := blockRootsRow.holds Try.pinned (OpenSpec.ofChange blockRootsSpec)

/-- ITS FALSE NEIGHBOUR: 'it returns false'. Refute it at one input. -/
def blockRootsWrong : ChangeSpec := { name := "blockRoots", fn := fun _ => fun
  | [d] => { results := [.lit (.bool false)], args := [d] }
  | _ => none }
def BlockRootsWrongFalsely : Prop := blockRootsRow.holds Try.pinned (OpenSpec.ofChange blockRootsWrong)

/-- 'bynamelaw11.BlockBytes': WHATEVER THE INPUT: true; the input reads as it did. -/
def blockBytesSpec : ChangeSpec := { name := "blockBytes", fn := fun _ => fun
  | [d1, d2] => { results := [.lit (.bool true)], args := [d1, d2] }
  | _ => none }
def blockBytesRow : OpenClaim := { program := "ytbpmcnfmgaolnaa", sum := "5c4495e6da595acc76fe2eff6616e5e5998eacf5cb72f024e1802d7c2db545ec", func := "byname/bynamelaw11.BlockBytes", spec := "blockBytes", unfollowed := true, recurses := true, plainKeys := false, apart := false }
def BlockBytesSaid : Prop := blockBytesRow.holds Try.pinned (OpenSpec.ofChange blockBytesSpec)

/-- ITS FALSE NEIGHBOUR: 'it returns false'. Refute it at one input. -/
def blockBytesWrong : ChangeSpec := { name := "blockBytes", fn := fun _ => fun
  | [d1, d2] => { results := [.lit (.bool false)], args := [d1, d2] }
  | _ => none }
def BlockBytesWrongFalsely : Prop := blockBytesRow.holds Try.pinned (OpenSpec.ofChange blockBytesWrong)

/-- 'bynamelaw11.BlockParses': WHATEVER THE INPUT: true; the input reads as it did. -/
def blockParsesSpec : ChangeSpec := { name := "blockParses", fn := fun _ => fun
  | [d] => { results := [.lit (.bool true)], args := [d] }
  | _ => none }
def blockParsesRow : OpenClaim := { program := "ytbpmcnfmgaolnaa", sum := "5c4495e6da595acc76fe2eff6616e5e5998eacf5cb72f024e1802d7c2db545ec", func := "byname/bynamelaw11.BlockParses", spec := "blockParses", unfollowed := true, recurses := true, plainKeys := false, apart := false }
def BlockParsesSaid : Prop := blockParsesRow.holds Try.pinned (OpenSpec.ofChange blockParsesSpec)

/-- ITS FALSE NEIGHBOUR: 'it returns false'. Refute it at one input. -/
def blockParsesWrong : ChangeSpec := { name := "blockParses", fn := fun _ => fun
  | [d] => { results := [.lit (.bool false)], args := [d] }
  | _ => none }
def BlockParsesWrongFalsely : Prop := blockParsesRow.holds Try.pinned (OpenSpec.ofChange blockParsesWrong)

/-- 'bynamelaw11.BlockTurns': WHATEVER THE INPUT: true; the input reads as it did. -/
def blockTurnsSpec : ChangeSpec := { name := "blockTurns", fn := fun _ => fun
  | [d1, d2, d3] => { results := [.lit (.bool true)], args := [d1, d2, d3] }
  | _ => none }
def blockTurnsRow : OpenClaim := { program := "ytbpmcnfmgaolnaa", sum := "5c4495e6da595acc76fe2eff6616e5e5998eacf5cb72f024e1802d7c2db545ec", func := "byname/bynamelaw11.BlockTurns", spec := "blockTurns", unfollowed := true, recurses := true, plainKeys := false, apart := false }
def BlockTurnsSaid : Prop := blockTurnsRow.holds Try.pinned (OpenSpec.ofChange blockTurnsSpec)

/-- ITS FALSE NEIGHBOUR: 'it returns false'. Refute it at one input. -/
def blockTurnsWrong : ChangeSpec := { name := "blockTurns", fn := fun _ => fun
  | [d1, d2, d3] => { results := [.lit (.bool false)], args := [d1, d2, d3] }
  | _ => none }
def BlockTurnsWrongFalsely : Prop := blockTurnsRow.holds Try.pinned (OpenSpec.ofChange blockTurnsWrong)

/-- 'bynamelaw11.BlockPairs': WHATEVER THE INPUT: true; the input reads as it did. -/
def blockPairsSpec : ChangeSpec := { name := "blockPairs", fn := fun _ => fun
  | [d] => { results := [.lit (.bool true)], args := [d] }
  | _ => none }
def blockPairsRow : OpenClaim := { program := "ytbpmcnfmgaolnaa", sum := "5c4495e6da595acc76fe2eff6616e5e5998eacf5cb72f024e1802d7c2db545ec", func := "byname/bynamelaw11.BlockPairs", spec := "blockPairs", unfollowed := true, recurses := true, plainKeys := false, apart := false }
def BlockPairsSaid : Prop := blockPairsRow.holds Try.pinned (OpenSpec.ofChange blockPairsSpec)

/-- ITS FALSE NEIGHBOUR: 'it returns false'. Refute it at one input. -/
def blockPairsWrong : ChangeSpec := { name := "blockPairs", fn := fun _ => fun
  | [d] => { results := [.lit (.bool false)], args := [d] }
  | _ => none }
def BlockPairsWrongFalsely : Prop := blockPairsRow.holds Try.pinned (OpenSpec.ofChange blockPairsWrong)

/-- 'bynamelaw11.BlockNames': WHATEVER THE INPUT: true; the input reads as it did. -/
def blockNamesSpec : ChangeSpec := { name := "blockNames", fn := fun _ => fun
  | [] => { results := [.lit (.bool true)], args := [] }
  | _ => none }
def blockNamesRow : OpenClaim := { program := "ytbpmcnfmgaolnaa", sum := "5c4495e6da595acc76fe2eff6616e5e5998eacf5cb72f024e1802d7c2db545ec", func := "byname/bynamelaw11.BlockNames", spec := "blockNames", unfollowed := true, recurses := true, plainKeys := false, apart := false }
def BlockNamesSaid : Prop := blockNamesRow.holds Try.pinned (OpenSpec.ofChange blockNamesSpec)

/-- ITS FALSE NEIGHBOUR: 'it returns false'. Refute it at one input. -/
def blockNamesWrong : ChangeSpec := { name := "blockNames", fn := fun _ => fun
  | [] => { results := [.lit (.bool false)], args := [] }
  | _ => none }
def BlockNamesWrongFalsely : Prop := blockNamesRow.holds Try.pinned (OpenSpec.ofChange blockNamesWrong)

/-- 'bynamelaw11.BlockHeads': WHATEVER THE INPUT: true; the input reads as it did. -/
def blockHeadsSpec : ChangeSpec := { name := "blockHeads", fn := fun _ => fun
  | [d] => { results := [.lit (.bool true)], args := [d] }
  | _ => none }
def blockHeadsRow : OpenClaim := { program := "ytbpmcnfmgaolnaa", sum := "5c4495e6da595acc76fe2eff6616e5e5998eacf5cb72f024e1802d7c2db545ec", func := "byname/bynamelaw11.BlockHeads", spec := "blockHeads", unfollowed := true, recurses := true, plainKeys := false, apart := false }
def BlockHeadsSaid : Prop := blockHeadsRow.holds Try.pinned (OpenSpec.ofChange blockHeadsSpec)

/-- ITS FALSE NEIGHBOUR: 'it returns false'. Refute it at one input. -/
def blockHeadsWrong : ChangeSpec := { name := "blockHeads", fn := fun _ => fun
  | [d] => { results := [.lit (.bool false)], args := [d] }
  | _ => none }
def BlockHeadsWrongFalsely : Prop := blockHeadsRow.holds Try.pinned (OpenSpec.ofChange blockHeadsWrong)

/-- 'bynamelaw09.CoinBytes': WHATEVER THE INPUT: true; the input reads as it did. -/
def coinBytesSpec : ChangeSpec := { name := "coinBytes", fn := fun _ => fun
  | [d1, d2, d3] => { results := [.lit (.bool true)], args := [d1, d2, d3] }
  | _ => none }
def coinBytesRow : OpenClaim := { program := "ytbpmcnfmgaolnaa", sum := "5c4495e6da595acc76fe2eff6616e5e5998eacf5cb72f024e1802d7c2db545ec", func := "byname/bynamelaw09.CoinBytes", spec := "coinBytes", unfollowed := true, recurses := true, plainKeys := false, apart := false }
def CoinBytesSaid : Prop := coinBytesRow.holds Try.pinned (OpenSpec.ofChange coinBytesSpec)

/-- ITS FALSE NEIGHBOUR: 'it returns false'. Refute it at one input. -/
def coinBytesWrong : ChangeSpec := { name := "coinBytes", fn := fun _ => fun
  | [d1, d2, d3] => { results := [.lit (.bool false)], args := [d1, d2, d3] }
  | _ => none }
def CoinBytesWrongFalsely : Prop := coinBytesRow.holds Try.pinned (OpenSpec.ofChange coinBytesWrong)

/-- 'bynamelaw10.TxBytes': WHATEVER THE INPUT: true; the input reads as it did. -/
def txBytesSpec : ChangeSpec := { name := "txBytes", fn := fun _ => fun
  | [d1, d2, d3] => { results := [.lit (.bool true)], args := [d1, d2, d3] }
  | _ => none }
def txBytesRow : OpenClaim := { program := "ytbpmcnfmgaolnaa", sum := "5c4495e6da595acc76fe2eff6616e5e5998eacf5cb72f024e1802d7c2db545ec", func := "byname/bynamelaw10.TxBytes", spec := "txBytes", unfollowed := true, recurses := true, plainKeys := false, apart := false }
def TxBytesSaid : Prop := txBytesRow.holds Try.pinned (OpenSpec.ofChange txBytesSpec)

/-- ITS FALSE NEIGHBOUR: 'it returns false'. Refute it at one input. -/
def txBytesWrong : ChangeSpec := { name := "txBytes", fn := fun _ => fun
  | [d1, d2, d3] => { results := [.lit (.bool false)], args := [d1, d2, d3] }
  | _ => none }
def TxBytesWrongFalsely : Prop := txBytesRow.holds Try.pinned (OpenSpec.ofChange txBytesWrong)

/- THE SECOND FORM. 'bulk': how many values and letters a reading holds, each counted each time it is reached (what is shared counts as often as it is met; a slice's spare places count too). A statement '..UptoSaid' is the law's where the arguments, and the package variables that the reading takes, are together of bulk at most 1048576: NARROWER than '..Said'. Prove '..Said' where nothing that the law and all that it calls make is longer than what came in: it says more and counts as full. Else prove '..UptoSaid'. A law counts once. -/
mutual
def uptoBulk {H : Type} : DataW H → Nat
  | .lit (.string bytes) => bytes.length + 1
  | .lit _ => 1
  | .nil => 1
  | .ptr d => uptoBulk d + 1
  | .slice elems spare => uptoBulkAll elems + uptoBulkAll spare + 1
  | .agg parts => uptoBulkAll parts + 1
  | .iface _ d => uptoBulk d + 1
  | .map entries => uptoBulkEntries entries + 1
  | .held _ => 1
def uptoBulkAll {H : Type} : List (DataW H) → Nat
  | [] => 0
  | d :: r => uptoBulk d + uptoBulkAll r
def uptoBulkEntries {H : Type} : List (Lit × DataW H) → Nat
  | [] => 0
  | x :: r => uptoBulkEntry x + uptoBulkEntries r
def uptoBulkEntry {H : Type} : Lit × DataW H → Nat
  | (.string bytes, d) => bytes.length + uptoBulk d + 1
  | (_, d) => uptoBulk d + 1
 end
def uptoSmall : (H : Type) → List (DataW H) → Bool := fun _ ds => decide (uptoBulkAll ds ≤ 1048576)
def OpenSpec.upto (s : _root_.Go.ChangeSpec) : _root_.Go.OpenSpec := { _root_.Go.OpenSpec.ofChange s with cond := some uptoSmall }

/-- 'bynamelaw22.WaitingRuns', WHERE WHAT IT READS IS OF BULK AT MOST 1048576: true; the input reads as it did. -/
def waitingRunsUptoRow : OpenClaim := { program := "ytbpmcnfmgaolnaa", sum := "5c4495e6da595acc76fe2eff6616e5e5998eacf5cb72f024e1802d7c2db545ec", func := "byname/bynamelaw22.WaitingRuns", spec := "waitingRuns", unfollowed := true, recurses := true, plainKeys := false, apart := false, narrowed := true }
def WaitingRunsUptoSaid : Prop := waitingRunsUptoRow.holds Try.pinned (OpenSpec.upto waitingRunsSpec)

/-- 'bynamelaw22.WaitingLast', WHERE WHAT IT READS IS OF BULK AT MOST 1048576: true; the input reads as it did. -/
def waitingLastUptoRow : OpenClaim := { program := "ytbpmcnfmgaolnaa", sum := "5c4495e6da595acc76fe2eff6616e5e5998eacf5cb72f024e1802d7c2db545ec", func := "byname/bynamelaw22.WaitingLast", spec := "waitingLast", unfollowed := true, recurses := true, plainKeys := false, apart := false, narrowed := true }
def WaitingLastUptoSaid : Prop := waitingLastUptoRow.holds Try.pinned (OpenSpec.upto waitingLastSpec)

/-- 'bynamelaw22.WaitingApart', WHERE WHAT IT READS IS OF BULK AT MOST 1048576: true; the input reads as it did. -/
def waitingApartUptoRow : OpenClaim := { program := "ytbpmcnfmgaolnaa", sum := "5c4495e6da595acc76fe2eff6616e5e5998eacf5cb72f024e1802d7c2db545ec", func := "byname/bynamelaw22.WaitingApart", spec := "waitingApart", unfollowed := true, recurses := true, plainKeys := false, apart := false, narrowed := true }
def WaitingApartUptoSaid : Prop := waitingApartUptoRow.holds Try.pinned (OpenSpec.upto waitingApartSpec)

/-- 'bynamelaw11.BlockRoots', WHERE WHAT IT READS IS OF BULK AT MOST 1048576: true; the input reads as it did. -/
def blockRootsUptoRow : OpenClaim := { program := "ytbpmcnfmgaolnaa", sum := "5c4495e6da595acc76fe2eff6616e5e5998eacf5cb72f024e1802d7c2db545ec", func := "byname/bynamelaw11.BlockRoots", spec := "blockRoots", unfollowed := true, recurses := true, plainKeys := false, apart := false, narrowed := true }
def BlockRootsUptoSaid : Prop := blockRootsUptoRow.holds Try.pinned (OpenSpec.upto blockRootsSpec)

/-- 'bynamelaw11.BlockBytes', WHERE WHAT IT READS IS OF BULK AT MOST 1048576: true; the input reads as it did. -/
def blockBytesUptoRow : OpenClaim := { program := "ytbpmcnfmgaolnaa", sum := "5c4495e6da595acc76fe2eff6616e5e5998eacf5cb72f024e1802d7c2db545ec", func := "byname/bynamelaw11.BlockBytes", spec := "blockBytes", unfollowed := true, recurses := true, plainKeys := false, apart := false, narrowed := true }
def BlockBytesUptoSaid : Prop := blockBytesUptoRow.holds Try.pinned (OpenSpec.upto blockBytesSpec)

/-- 'bynamelaw11.BlockParses', WHERE WHAT IT READS IS OF BULK AT MOST 1048576: true; the input reads as it did. -/
def blockParsesUptoRow : OpenClaim := { program := "ytbpmcnfmgaolnaa", sum := "5c4495e6da595acc76fe2eff6616e5e5998eacf5cb72f024e1802d7c2db545ec", func := "byname/bynamelaw11.BlockParses", spec := "blockParses", unfollowed := true, recurses := true, plainKeys := false, apart := false, narrowed := true }
def BlockParsesUptoSaid : Prop := blockParsesUptoRow.holds Try.pinned (OpenSpec.upto blockParsesSpec)

/-- 'bynamelaw11.BlockTurns', WHERE WHAT IT READS IS OF BULK AT MOST 1048576: true; the input reads as it did. -/
def blockTurnsUptoRow : OpenClaim := { program := "ytbpmcnfmgaolnaa", sum := "5c4495e6da595acc76fe2eff6616e5e5998eacf5cb72f024e1802d7c2db545ec", func := "byname/bynamelaw11.BlockTurns", spec := "blockTurns", unfollowed := true, recurses := true, plainKeys := false, apart := false, narrowed := true }
def BlockTurnsUptoSaid : Prop := blockTurnsUptoRow.holds Try.pinned (OpenSpec.upto blockTurnsSpec)

/-- 'bynamelaw11.BlockPairs', WHERE WHAT IT READS IS OF BULK AT MOST 1048576: true; the input reads as it did. -/
def blockPairsUptoRow : OpenClaim := { program := "ytbpmcnfmgaolnaa", sum := "5c4495e6da595acc76fe2eff6616e5e5998eacf5cb72f024e1802d7c2db545ec", func := "byname/bynamelaw11.BlockPairs", spec := "blockPairs", unfollowed := true, recurses := true, plainKeys := false, apart := false, narrowed := true }
def BlockPairsUptoSaid : Prop := blockPairsUptoRow.holds Try.pinned (OpenSpec.upto blockPairsSpec)

/-- 'bynamelaw11.BlockNames', WHERE WHAT IT READS IS OF BULK AT MOST 1048576: true; the input reads as it did. -/
def blockNamesUptoRow : OpenClaim := { program := "ytbpmcnfmgaolnaa", sum := "5c4495e6da595acc76fe2eff6616e5e5998eacf5cb72f024e1802d7c2db545ec", func := "byname/bynamelaw11.BlockNames", spec := "blockNames", unfollowed := true, recurses := true, plainKeys := false, apart := false, narrowed := true }
def BlockNamesUptoSaid : Prop := blockNamesUptoRow.holds Try.pinned (OpenSpec.upto blockNamesSpec)

/-- 'bynamelaw11.BlockHeads', WHERE WHAT IT READS IS OF BULK AT MOST 1048576: true; the input reads as it did. -/
def blockHeadsUptoRow : OpenClaim := { program := "ytbpmcnfmgaolnaa", sum := "5c4495e6da595acc76fe2eff6616e5e5998eacf5cb72f024e1802d7c2db545ec", func := "byname/bynamelaw11.BlockHeads", spec := "blockHeads", unfollowed := true, recurses := true, plainKeys := false, apart := false, narrowed := true }
def BlockHeadsUptoSaid : Prop := blockHeadsUptoRow.holds Try.pinned (OpenSpec.upto blockHeadsSpec)

/-- 'bynamelaw09.CoinBytes', WHERE WHAT IT READS IS OF BULK AT MOST 1048576: true; the input reads as it did. -/
def coinBytesUptoRow : OpenClaim := { program := "ytbpmcnfmgaolnaa", sum := "5c4495e6da595acc76fe2eff6616e5e5998eacf5cb72f024e1802d7c2db545ec", func := "byname/bynamelaw09.CoinBytes", spec := "coinBytes", unfollowed := true, recurses := true, plainKeys := false, apart := false, narrowed := true }
def CoinBytesUptoSaid : Prop := coinBytesUptoRow.holds Try.pinned (OpenSpec.upto coinBytesSpec)

/-- 'bynamelaw10.TxBytes', WHERE WHAT IT READS IS OF BULK AT MOST 1048576: true; the input reads as it did. -/
def txBytesUptoRow : OpenClaim := { program := "ytbpmcnfmgaolnaa", sum := "5c4495e6da595acc76fe2eff6616e5e5998eacf5cb72f024e1802d7c2db545ec", func := "byname/bynamelaw10.TxBytes", spec := "txBytes", unfollowed := true, recurses := true, plainKeys := false, apart := false, narrowed := true }
def TxBytesUptoSaid : Prop := txBytesUptoRow.holds Try.pinned (OpenSpec.upto txBytesSpec)

end Rows
end Go.Proofs.Ytbpmcnfmgaolnaa
