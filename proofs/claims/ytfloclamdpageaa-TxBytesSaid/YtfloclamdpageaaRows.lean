/-
  No cell of these rows narrows 'for every input' (looked for: loops, veiled, ifaces, maps, wideKeys, modest, calm, conditions, laid).
  DERIVED. THE GIVEN ROWS OF THIS SEAT. 11 by the template 'for every input the law returns true; each argument reads behind the call as it read before'; 0 by the template 'total and deterministic' (their statements: YtfloclamdpageaaTotals.lean).
  GIVEN WITH THE SEED: the statements are not yours to turn. If you find one false, say at which input.
  Laid BY PROGRAM, IN A SANDBOX (cutbox-rows.mjs): the forced cells as the released guide's own fill.sh prints them over the translation 5fc05d44b8c8ae8f… (all of the seat's roots in one cut). By AI agents, Wed Nov 11 2026. No macro, syntax, notation, axiom, sorry.
-/
import Derived.Test.YtfloclamdpageaaChecked
import GoSem.Claim
import GoSem.ClaimJoined
import GoSem.ClaimMapViews
import Derived.JoinedTies
import Derived.KernelRfl
namespace Go.Proofs.Ytfloclamdpageaa
/- THE CELL 'sum', in the pinned program and in every row, IS THE sha256 OF THE DUMP (.gsa) THAT YtfloclamdpageaaProg.lean LOADS. Nothing in Lean hashes anything: it is a label: what it is worth is what the hold of that sum in a sandbox is worth. -/
noncomputable def Try.pinned : Pinned := { name := "ytfloclamdpageaa", sum := "5fc05d44b8c8ae8fd2ec484e22e92c9f962c637be6a3b5539d5259af27704167", checked := Try.checked }
namespace Rows
def none {H : Type} : Left H := { results := [], args := [] }

/-- 'bynamelaw09.CoinBytes': WHATEVER THE INPUT: true; the input reads as it did. -/
def coinBytesSpec : ChangeSpec := { name := "coinBytes", fn := fun _ => fun
  | [d1, d2, d3] => { results := [.lit (.bool true)], args := [d1, d2, d3] }
  | _ => none }
def coinBytesRow : OpenClaim := { program := "ytfloclamdpageaa", sum := "5fc05d44b8c8ae8fd2ec484e22e92c9f962c637be6a3b5539d5259af27704167", func := "byname/bynamelaw09.CoinBytes", spec := "coinBytes", unfollowed := true, recurses := true, plainKeys := false, apart := false }
def CoinBytesSaid : Prop := coinBytesRow.holds Try.pinned (OpenSpec.ofChange coinBytesSpec)

/-- ITS FALSE NEIGHBOUR: 'it returns false'. Refute it at one input. -/
def coinBytesWrong : ChangeSpec := { name := "coinBytes", fn := fun _ => fun
  | [d1, d2, d3] => { results := [.lit (.bool false)], args := [d1, d2, d3] }
  | _ => none }
def CoinBytesWrongFalsely : Prop := coinBytesRow.holds Try.pinned (OpenSpec.ofChange coinBytesWrong)

/-- 'bynamelaw09.CoinHalves': WHATEVER THE INPUT: true; the input reads as it did. -/
def coinHalvesSpec : ChangeSpec := { name := "coinHalves", fn := fun _ => fun
  | [d] => { results := [.lit (.bool true)], args := [d] }
  | _ => none }
def coinHalvesRow : OpenClaim := { program := "ytfloclamdpageaa", sum := "5fc05d44b8c8ae8fd2ec484e22e92c9f962c637be6a3b5539d5259af27704167", func := "byname/bynamelaw09.CoinHalves", spec := "coinHalves", unfollowed := true, recurses := true, plainKeys := false, apart := false }
def CoinHalvesSaid : Prop := coinHalvesRow.holds Try.pinned (OpenSpec.ofChange coinHalvesSpec)

/-- ITS FALSE NEIGHBOUR: 'it returns false'. Refute it at one input. -/
def coinHalvesWrong : ChangeSpec := { name := "coinHalves", fn := fun _ => fun
  | [d] => { results := [.lit (.bool false)], args := [d] }
  | _ => none }
def CoinHalvesWrongFalsely : Prop := coinHalvesRow.holds Try.pinned (OpenSpec.ofChange coinHalvesWrong)

/-- 'bynamelaw09.CoinNames': WHATEVER THE INPUT: true; the input reads as it did. -/
def coinNamesSpec : ChangeSpec := { name := "coinNames", fn := fun _ => fun
  | [] => { results := [.lit (.bool true)], args := [] }
  | _ => none }
def coinNamesRow : OpenClaim := { program := "ytfloclamdpageaa", sum := "5fc05d44b8c8ae8fd2ec484e22e92c9f962c637be6a3b5539d5259af27704167", func := "byname/bynamelaw09.CoinNames", spec := "coinNames", unfollowed := true, recurses := true, plainKeys := false, apart := false }
def CoinNamesSaid : Prop := coinNamesRow.holds Try.pinned (OpenSpec.ofChange coinNamesSpec)

/-- ITS FALSE NEIGHBOUR: 'it returns false'. Refute it at one input. -/
def coinNamesWrong : ChangeSpec := { name := "coinNames", fn := fun _ => fun
  | [] => { results := [.lit (.bool false)], args := [] }
  | _ => none }
def CoinNamesWrongFalsely : Prop := coinNamesRow.holds Try.pinned (OpenSpec.ofChange coinNamesWrong)

/-- 'bynamelaw09.CoinSums': WHATEVER THE INPUT: true; the input reads as it did. -/
def coinSumsSpec : ChangeSpec := { name := "coinSums", fn := fun _ => fun
  | [d1, d2] => { results := [.lit (.bool true)], args := [d1, d2] }
  | _ => none }
def coinSumsRow : OpenClaim := { program := "ytfloclamdpageaa", sum := "5fc05d44b8c8ae8fd2ec484e22e92c9f962c637be6a3b5539d5259af27704167", func := "byname/bynamelaw09.CoinSums", spec := "coinSums", unfollowed := true, recurses := true, plainKeys := false, apart := false }
def CoinSumsSaid : Prop := coinSumsRow.holds Try.pinned (OpenSpec.ofChange coinSumsSpec)

/-- ITS FALSE NEIGHBOUR: 'it returns false'. Refute it at one input. -/
def coinSumsWrong : ChangeSpec := { name := "coinSums", fn := fun _ => fun
  | [d1, d2] => { results := [.lit (.bool false)], args := [d1, d2] }
  | _ => none }
def CoinSumsWrongFalsely : Prop := coinSumsRow.holds Try.pinned (OpenSpec.ofChange coinSumsWrong)

/-- 'bynamelaw09.CoinRefs': WHATEVER THE INPUT: true; the input reads as it did. -/
def coinRefsSpec : ChangeSpec := { name := "coinRefs", fn := fun _ => fun
  | [d1, d2, d3] => { results := [.lit (.bool true)], args := [d1, d2, d3] }
  | _ => none }
def coinRefsRow : OpenClaim := { program := "ytfloclamdpageaa", sum := "5fc05d44b8c8ae8fd2ec484e22e92c9f962c637be6a3b5539d5259af27704167", func := "byname/bynamelaw09.CoinRefs", spec := "coinRefs", unfollowed := true, recurses := true, plainKeys := false, apart := false }
def CoinRefsSaid : Prop := coinRefsRow.holds Try.pinned (OpenSpec.ofChange coinRefsSpec)

/-- ITS FALSE NEIGHBOUR: 'it returns false'. Refute it at one input. -/
def coinRefsWrong : ChangeSpec := { name := "coinRefs", fn := fun _ => fun
  | [d1, d2, d3] => { results := [.lit (.bool false)], args := [d1, d2, d3] }
  | _ => none }
def CoinRefsWrongFalsely : Prop := coinRefsRow.holds Try.pinned (OpenSpec.ofChange coinRefsWrong)

/-- 'bynamelaw10.TxNames': WHATEVER THE INPUT: true; the input reads as it did. -/
def txNamesSpec : ChangeSpec := { name := "txNames", fn := fun _ => fun
  | [] => { results := [.lit (.bool true)], args := [] }
  | _ => none }
def txNamesRow : OpenClaim := { program := "ytfloclamdpageaa", sum := "5fc05d44b8c8ae8fd2ec484e22e92c9f962c637be6a3b5539d5259af27704167", func := "byname/bynamelaw10.TxNames", spec := "txNames", unfollowed := true, recurses := true, plainKeys := false, apart := false }
def TxNamesSaid : Prop := txNamesRow.holds Try.pinned (OpenSpec.ofChange txNamesSpec)

/-- ITS FALSE NEIGHBOUR: 'it returns false'. Refute it at one input. -/
def txNamesWrong : ChangeSpec := { name := "txNames", fn := fun _ => fun
  | [] => { results := [.lit (.bool false)], args := [] }
  | _ => none }
def TxNamesWrongFalsely : Prop := txNamesRow.holds Try.pinned (OpenSpec.ofChange txNamesWrong)

/-- 'bynamelaw10.TxParses': WHATEVER THE INPUT: true; the input reads as it did. -/
def txParsesSpec : ChangeSpec := { name := "txParses", fn := fun _ => fun
  | [d] => { results := [.lit (.bool true)], args := [d] }
  | _ => none }
def txParsesRow : OpenClaim := { program := "ytfloclamdpageaa", sum := "5fc05d44b8c8ae8fd2ec484e22e92c9f962c637be6a3b5539d5259af27704167", func := "byname/bynamelaw10.TxParses", spec := "txParses", unfollowed := true, recurses := true, plainKeys := false, apart := false }
def TxParsesSaid : Prop := txParsesRow.holds Try.pinned (OpenSpec.ofChange txParsesSpec)

/-- ITS FALSE NEIGHBOUR: 'it returns false'. Refute it at one input. -/
def txParsesWrong : ChangeSpec := { name := "txParses", fn := fun _ => fun
  | [d] => { results := [.lit (.bool false)], args := [d] }
  | _ => none }
def TxParsesWrongFalsely : Prop := txParsesRow.holds Try.pinned (OpenSpec.ofChange txParsesWrong)

/-- 'bynamelaw10.TxSame': WHATEVER THE INPUT: true; the input reads as it did. -/
def txSameSpec : ChangeSpec := { name := "txSame", fn := fun _ => fun
  | [d1, d2] => { results := [.lit (.bool true)], args := [d1, d2] }
  | _ => none }
def txSameRow : OpenClaim := { program := "ytfloclamdpageaa", sum := "5fc05d44b8c8ae8fd2ec484e22e92c9f962c637be6a3b5539d5259af27704167", func := "byname/bynamelaw10.TxSame", spec := "txSame", unfollowed := true, recurses := true, plainKeys := false, apart := false }
def TxSameSaid : Prop := txSameRow.holds Try.pinned (OpenSpec.ofChange txSameSpec)

/-- ITS FALSE NEIGHBOUR: 'it returns false'. Refute it at one input. -/
def txSameWrong : ChangeSpec := { name := "txSame", fn := fun _ => fun
  | [d1, d2] => { results := [.lit (.bool false)], args := [d1, d2] }
  | _ => none }
def TxSameWrongFalsely : Prop := txSameRow.holds Try.pinned (OpenSpec.ofChange txSameWrong)

/-- 'bynamelaw10.TxCuts': WHATEVER THE INPUT: true; the input reads as it did. -/
def txCutsSpec : ChangeSpec := { name := "txCuts", fn := fun _ => fun
  | [d1, d2, d3] => { results := [.lit (.bool true)], args := [d1, d2, d3] }
  | _ => none }
def txCutsRow : OpenClaim := { program := "ytfloclamdpageaa", sum := "5fc05d44b8c8ae8fd2ec484e22e92c9f962c637be6a3b5539d5259af27704167", func := "byname/bynamelaw10.TxCuts", spec := "txCuts", unfollowed := true, recurses := true, plainKeys := false, apart := false }
def TxCutsSaid : Prop := txCutsRow.holds Try.pinned (OpenSpec.ofChange txCutsSpec)

/-- ITS FALSE NEIGHBOUR: 'it returns false'. Refute it at one input. -/
def txCutsWrong : ChangeSpec := { name := "txCuts", fn := fun _ => fun
  | [d1, d2, d3] => { results := [.lit (.bool false)], args := [d1, d2, d3] }
  | _ => none }
def TxCutsWrongFalsely : Prop := txCutsRow.holds Try.pinned (OpenSpec.ofChange txCutsWrong)

/-- 'bynamelaw10.TxBytes': WHATEVER THE INPUT: true; the input reads as it did. -/
def txBytesSpec : ChangeSpec := { name := "txBytes", fn := fun _ => fun
  | [d1, d2, d3] => { results := [.lit (.bool true)], args := [d1, d2, d3] }
  | _ => none }
def txBytesRow : OpenClaim := { program := "ytfloclamdpageaa", sum := "5fc05d44b8c8ae8fd2ec484e22e92c9f962c637be6a3b5539d5259af27704167", func := "byname/bynamelaw10.TxBytes", spec := "txBytes", unfollowed := true, recurses := true, plainKeys := false, apart := false }
def TxBytesSaid : Prop := txBytesRow.holds Try.pinned (OpenSpec.ofChange txBytesSpec)

/-- ITS FALSE NEIGHBOUR: 'it returns false'. Refute it at one input. -/
def txBytesWrong : ChangeSpec := { name := "txBytes", fn := fun _ => fun
  | [d1, d2, d3] => { results := [.lit (.bool false)], args := [d1, d2, d3] }
  | _ => none }
def TxBytesWrongFalsely : Prop := txBytesRow.holds Try.pinned (OpenSpec.ofChange txBytesWrong)

/-- 'bynamelaw10.TxSigned': WHATEVER THE INPUT: true; the input reads as it did. -/
def txSignedSpec : ChangeSpec := { name := "txSigned", fn := fun _ => fun
  | [d1, d2, d3] => { results := [.lit (.bool true)], args := [d1, d2, d3] }
  | _ => none }
def txSignedRow : OpenClaim := { program := "ytfloclamdpageaa", sum := "5fc05d44b8c8ae8fd2ec484e22e92c9f962c637be6a3b5539d5259af27704167", func := "byname/bynamelaw10.TxSigned", spec := "txSigned", unfollowed := true, recurses := true, plainKeys := false, apart := false }
def TxSignedSaid : Prop := txSignedRow.holds Try.pinned (OpenSpec.ofChange txSignedSpec)

/-- ITS FALSE NEIGHBOUR: 'it returns false'. Refute it at one input. -/
def txSignedWrong : ChangeSpec := { name := "txSigned", fn := fun _ => fun
  | [d1, d2, d3] => { results := [.lit (.bool false)], args := [d1, d2, d3] }
  | _ => none }
def TxSignedWrongFalsely : Prop := txSignedRow.holds Try.pinned (OpenSpec.ofChange txSignedWrong)

/- THE SECOND FORM. 'bulk': how many values and letters a reading holds, each counted each time it is reached (what is shared counts as often as it is met; a slice's spare places count too). A statement '..UptoSaid' is the law's where the arguments, and the package variables that the reading takes, are together of bulk at most 1048576: NARROWER than '..Said'. Prove '..Said' where nothing that the law and all that it calls make is longer than what came in: it says more and counts as full. Else prove '..UptoSaid'. A law counts once. -/
mutual
def uptoBulk {H : Type} : DataW H → Nat
  | .lit (.string bytes) => bytes.length + 1
  | .lit _ => 1
  | .nil => 1
  | .ptr d => uptoBulk d + 1
  | .slice elems spare => uptoBulkAll elems + uptoBulkAll spare + 1
  | .agg parts => uptoBulkAll parts + 1
  | .iface _ d => uptoBulk d + 1
  | .map entries => uptoBulkEntries entries + 1
  | .held _ => 1
def uptoBulkAll {H : Type} : List (DataW H) → Nat
  | [] => 0
  | d :: r => uptoBulk d + uptoBulkAll r
def uptoBulkEntries {H : Type} : List (Lit × DataW H) → Nat
  | [] => 0
  | x :: r => uptoBulkEntry x + uptoBulkEntries r
def uptoBulkEntry {H : Type} : Lit × DataW H → Nat
  | (.string bytes, d) => bytes.length + uptoBulk d + 1
  | (_, d) => uptoBulk d + 1
 end
def uptoSmall : (H : Type) → List (DataW H) → Bool := fun _ ds => decide (uptoBulkAll ds ≤ 1048576)
def OpenSpec.upto (s : _root_.Go.ChangeSpec) : _root_.Go.OpenSpec := { _root_.Go.OpenSpec.ofChange s with cond := some uptoSmall }

/-- 'bynamelaw09.CoinBytes', WHERE WHAT IT READS IS OF BULK AT MOST 1048576: true; the input reads as it did. -/
def coinBytesUptoRow : OpenClaim := { program := "ytfloclamdpageaa", sum := "5fc05d44b8c8ae8fd2ec484e22e92c9f962c637be6a3b5539d5259af27704167", func := "byname/bynamelaw09.CoinBytes", spec := "coinBytes", unfollowed := true, recurses := true, plainKeys := false, apart := false, narrowed := true }
def CoinBytesUptoSaid : Prop := coinBytesUptoRow.holds Try.pinned (OpenSpec.upto coinBytesSpec)

/-- 'bynamelaw09.CoinHalves', WHERE WHAT IT READS IS OF BULK AT MOST 1048576: true; the input reads as it did. -/
def coinHalvesUptoRow : OpenClaim := { program := "ytfloclamdpageaa", sum := "5fc05d44b8c8ae8fd2ec484e22e92c9f962c637be6a3b5539d5259af27704167", func := "byname/bynamelaw09.CoinHalves", spec := "coinHalves", unfollowed := true, recurses := true, plainKeys := false, apart := false, narrowed := true }
def CoinHalvesUptoSaid : Prop := coinHalvesUptoRow.holds Try.pinned (OpenSpec.upto coinHalvesSpec)

/-- 'bynamelaw09.CoinNames', WHERE WHAT IT READS IS OF BULK AT MOST 1048576: true; the input reads as it did. -/
def coinNamesUptoRow : OpenClaim := { program := "ytfloclamdpageaa", sum := "5fc05d44b8c8ae8fd2ec484e22e92c9f962c637be6a3b5539d5259af27704167", func := "byname/bynamelaw09.CoinNames", spec := "coinNames", unfollowed := true, recurses := true, plainKeys := false, apart := false, narrowed := true }
def CoinNamesUptoSaid : Prop := coinNamesUptoRow.holds Try.pinned (OpenSpec.upto coinNamesSpec)

/-- 'bynamelaw09.CoinSums', WHERE WHAT IT READS IS OF BULK AT MOST 1048576: true; the input reads as it did. -/
def coinSumsUptoRow : OpenClaim := { program := "ytfloclamdpageaa", sum := "5fc05d44b8c8ae8fd2ec484e22e92c9f962c637be6a3b5539d5259af27704167", func := "byname/bynamelaw09.CoinSums", spec := "coinSums", unfollowed := true, recurses := true, plainKeys := false, apart := false, narrowed := true }
def CoinSumsUptoSaid : Prop := coinSumsUptoRow.holds Try.pinned (OpenSpec.upto coinSumsSpec)

/-- 'bynamelaw09.CoinRefs', WHERE WHAT IT READS IS OF BULK AT MOST 1048576: true; the input reads as it did. -/
def coinRefsUptoRow : OpenClaim := { program := "ytfloclamdpageaa", sum := "5fc05d44b8c8ae8fd2ec484e22e92c9f962c637be6a3b5539d5259af27704167", func := "byname/bynamelaw09.CoinRefs", spec := "coinRefs", unfollowed := true, recurses := true, plainKeys := false, apart := false, narrowed := true }
def CoinRefsUptoSaid : Prop := coinRefsUptoRow.holds Try.pinned (OpenSpec.upto coinRefsSpec)

/-- 'bynamelaw10.TxNames', WHERE WHAT IT READS IS OF BULK AT MOST 1048576: true; the input reads as it did. -/
def txNamesUptoRow : OpenClaim := { program := "ytfloclamdpageaa", sum := "5fc05d44b8c8ae8fd2ec484e22e92c9f962c637be6a3b5539d5259af27704167", func := "byname/bynamelaw10.TxNames", spec := "txNames", unfollowed := true, recurses := true, plainKeys := false, apart := false, narrowed := true }
def TxNamesUptoSaid : Prop := txNamesUptoRow.holds Try.pinned (OpenSpec.upto txNamesSpec)

/-- 'bynamelaw10.TxParses', WHERE WHAT IT READS IS OF BULK AT MOST 1048576: true; the input reads as it did. -/
def txParsesUptoRow : OpenClaim := { program := "ytfloclamdpageaa", sum := "5fc05d44b8c8ae8fd2ec484e22e92c9f962c637be6a3b5539d5259af27704167", func := "byname/bynamelaw10.TxParses", spec := "txParses", unfollowed := true, recurses := true, plainKeys := false, apart := false, narrowed := true }
def TxParsesUptoSaid : Prop := txParsesUptoRow.holds Try.pinned (OpenSpec.upto txParsesSpec)

/-- 'bynamelaw10.TxSame', WHERE WHAT IT READS IS OF BULK AT MOST 1048576: true; the input reads as it did. -/
def txSameUptoRow : OpenClaim := { program := "ytfloclamdpageaa", sum := "5fc05d44b8c8ae8fd2ec484e22e92c9f962c637be6a3b5539d5259af27704167", func := "byname/bynamelaw10.TxSame", spec := "txSame", unfollowed := true, recurses := true, plainKeys := false, apart := false, narrowed := true }
def TxSameUptoSaid : Prop := txSameUptoRow.holds Try.pinned (OpenSpec.upto txSameSpec)

/-- 'bynamelaw10.TxCuts', WHERE WHAT IT READS IS OF BULK AT MOST 1048576: true; the input reads as it did. -/
def txCutsUptoRow : OpenClaim := { program := "ytfloclamdpageaa", sum := "5fc05d44b8c8ae8fd2ec484e22e92c9f962c637be6a3b5539d5259af27704167", func := "byname/bynamelaw10.TxCuts", spec := "txCuts", unfollowed := true, recurses := true, plainKeys := false, apart := false, narrowed := true }
def TxCutsUptoSaid : Prop := txCutsUptoRow.holds Try.pinned (OpenSpec.upto txCutsSpec)

/-- 'bynamelaw10.TxBytes', WHERE WHAT IT READS IS OF BULK AT MOST 1048576: true; the input reads as it did. -/
def txBytesUptoRow : OpenClaim := { program := "ytfloclamdpageaa", sum := "5fc05d44b8c8ae8fd2ec484e22e92c9f962c637be6a3b5539d5259af27704167", func := "byname/bynamelaw10.TxBytes", spec := "txBytes", unfollowed := true, recurses := true, plainKeys := false, apart := false, narrowed := true }
def TxBytesUptoSaid : Prop := txBytesUptoRow.holds Try.pinned (OpenSpec.upto txBytesSpec)

/-- 'bynamelaw10.TxSigned', WHERE WHAT IT READS IS OF BULK AT MOST 1048576: true; the input reads as it did. -/
def txSignedUptoRow : OpenClaim := { program := "ytfloclamdpageaa", sum := "5fc05d44b8c8ae8fd2ec484e22e92c9f962c637be6a3b5539d5259af27704167", func := "byname/bynamelaw10.TxSigned", spec := "txSigned", unfollowed := true, recurses := true, plainKeys := false, apart := false, narrowed := true }
def TxSignedUptoSaid : Prop := txSignedUptoRow.holds Try.pinned (OpenSpec.upto txSignedSpec)

end Rows
end Go.Proofs.Ytfloclamdpageaa
