/-
  No cell of these rows narrows 'for every input' (looked for: loops, veiled, ifaces, maps, wideKeys, modest, calm, conditions, laid).
  DERIVED. THE GIVEN ROWS OF THIS SEAT. 11 by the template 'for every input the law returns true; each argument reads behind the call as it read before'; 0 by the template 'total and deterministic' (their statements: YtjipgimnhkliaaaTotals.lean).
  GIVEN WITH THE SEED: the statements are not yours to turn. If you find one false, say at which input.
  Laid BY PROGRAM, IN A SANDBOX (cutbox-rows.mjs): the forced cells as the released guide's own fill.sh prints them over the translation 190d6dcd7602e3a1… (all of the seat's roots in one cut). By AI agents, Wed Nov 11 2026. No macro, syntax, notation, axiom, sorry.
-/
import Derived.Test.YtjipgimnhkliaaaChecked
import GoSem.Claim
import GoSem.ClaimJoined
import GoSem.ClaimMapViews
import Derived.JoinedTies
import Derived.KernelRfl
namespace Go.Proofs.Ytjipgimnhkliaaa
/- THE CELL 'sum', in the pinned program and in every row, IS THE sha256 OF THE DUMP (.gsa) THAT YtjipgimnhkliaaaProg.lean LOADS. Nothing in Lean hashes anything: it is a label: what it is worth is what the hold of that sum in a sandbox is worth. -/
noncomputable def Try.pinned : Pinned := { name := "ytjipgimnhkliaaa", sum := "190d6dcd7602e3a1b3eb7e993cf276c21c7e617f95f1ea4ac1312c2c0a4b2afa", checked := Try.checked }
namespace Rows
def none {H : Type} : Left H := { results := [], args := [] }

/-- 'bynamelaw13.SlabSure': WHATEVER THE INPUT: true; the input reads as it did. -/
def slabSureSpec : ChangeSpec := { name := "slabSure", fn := fun _ => fun
  | [d1, d2] => { results := [.lit (.bool true)], args := [d1, d2] }
  | _ => none }
def slabSureRow : OpenClaim := { program := "ytjipgimnhkliaaa", sum := "190d6dcd7602e3a1b3eb7e993cf276c21c7e617f95f1ea4ac1312c2c0a4b2afa", func := "byname/bynamelaw13.SlabSure", spec := "slabSure", apart := false }
def SlabSureSaid : Prop := slabSureRow.holds Try.pinned (OpenSpec.ofChange slabSureSpec)

/-- ITS FALSE NEIGHBOUR: 'it returns false'. Refute it at one input. -/
def slabSureWrong : ChangeSpec := { name := "slabSure", fn := fun _ => fun
  | [d1, d2] => { results := [.lit (.bool false)], args := [d1, d2] }
  | _ => none }
def SlabSureWrongFalsely : Prop := slabSureRow.holds Try.pinned (OpenSpec.ofChange slabSureWrong)

/-- 'bynamelaw13.SlabWhole': WHATEVER THE INPUT: true; the input reads as it did. -/
def slabWholeSpec : ChangeSpec := { name := "slabWhole", fn := fun _ => fun
  | [d1, d2] => { results := [.lit (.bool true)], args := [d1, d2] }
  | _ => none }
def slabWholeRow : OpenClaim := { program := "ytjipgimnhkliaaa", sum := "190d6dcd7602e3a1b3eb7e993cf276c21c7e617f95f1ea4ac1312c2c0a4b2afa", func := "byname/bynamelaw13.SlabWhole", spec := "slabWhole", apart := false }
def SlabWholeSaid : Prop := slabWholeRow.holds Try.pinned (OpenSpec.ofChange slabWholeSpec)

/-- ITS FALSE NEIGHBOUR: 'it returns false'. Refute it at one input. -/
def slabWholeWrong : ChangeSpec := { name := "slabWhole", fn := fun _ => fun
  | [d1, d2] => { results := [.lit (.bool false)], args := [d1, d2] }
  | _ => none }
def SlabWholeWrongFalsely : Prop := slabWholeRow.holds Try.pinned (OpenSpec.ofChange slabWholeWrong)

/-- 'bynamelaw13.SlabNames': WHATEVER THE INPUT: true; the input reads as it did. -/
def slabNamesSpec : ChangeSpec := { name := "slabNames", fn := fun _ => fun
  | [] => { results := [.lit (.bool true)], args := [] }
  | _ => none }
def slabNamesRow : OpenClaim := { program := "ytjipgimnhkliaaa", sum := "190d6dcd7602e3a1b3eb7e993cf276c21c7e617f95f1ea4ac1312c2c0a4b2afa", func := "byname/bynamelaw13.SlabNames", spec := "slabNames", apart := false }
def SlabNamesSaid : Prop := slabNamesRow.holds Try.pinned (OpenSpec.ofChange slabNamesSpec)

/-- ITS FALSE NEIGHBOUR: 'it returns false'. Refute it at one input. -/
def slabNamesWrong : ChangeSpec := { name := "slabNames", fn := fun _ => fun
  | [] => { results := [.lit (.bool false)], args := [] }
  | _ => none }
def SlabNamesWrongFalsely : Prop := slabNamesRow.holds Try.pinned (OpenSpec.ofChange slabNamesWrong)

/-- 'bynamelaw13.SlabRuns': WHATEVER THE INPUT: true; the input reads as it did. -/
def slabRunsSpec : ChangeSpec := { name := "slabRuns", fn := fun _ => fun
  | [d1, d2] => { results := [.lit (.bool true)], args := [d1, d2] }
  | _ => none }
def slabRunsRow : OpenClaim := { program := "ytjipgimnhkliaaa", sum := "190d6dcd7602e3a1b3eb7e993cf276c21c7e617f95f1ea4ac1312c2c0a4b2afa", func := "byname/bynamelaw13.SlabRuns", spec := "slabRuns", apart := false }
def SlabRunsSaid : Prop := slabRunsRow.holds Try.pinned (OpenSpec.ofChange slabRunsSpec)

/-- ITS FALSE NEIGHBOUR: 'it returns false'. Refute it at one input. -/
def slabRunsWrong : ChangeSpec := { name := "slabRuns", fn := fun _ => fun
  | [d1, d2] => { results := [.lit (.bool false)], args := [d1, d2] }
  | _ => none }
def SlabRunsWrongFalsely : Prop := slabRunsRow.holds Try.pinned (OpenSpec.ofChange slabRunsWrong)

/-- 'bynamelaw13.SlabDown': WHATEVER THE INPUT: true; the input reads as it did. -/
def slabDownSpec : ChangeSpec := { name := "slabDown", fn := fun _ => fun
  | [d1, d2] => { results := [.lit (.bool true)], args := [d1, d2] }
  | _ => none }
def slabDownRow : OpenClaim := { program := "ytjipgimnhkliaaa", sum := "190d6dcd7602e3a1b3eb7e993cf276c21c7e617f95f1ea4ac1312c2c0a4b2afa", func := "byname/bynamelaw13.SlabDown", spec := "slabDown", apart := false }
def SlabDownSaid : Prop := slabDownRow.holds Try.pinned (OpenSpec.ofChange slabDownSpec)

/-- ITS FALSE NEIGHBOUR: 'it returns false'. Refute it at one input. -/
def slabDownWrong : ChangeSpec := { name := "slabDown", fn := fun _ => fun
  | [d1, d2] => { results := [.lit (.bool false)], args := [d1, d2] }
  | _ => none }
def SlabDownWrongFalsely : Prop := slabDownRow.holds Try.pinned (OpenSpec.ofChange slabDownWrong)

/-- 'bynamelaw06.PieceAlone': WHATEVER THE INPUT: true; the input reads as it did. -/
def pieceAloneSpec : ChangeSpec := { name := "pieceAlone", fn := fun _ => fun
  | [d1, d2] => { results := [.lit (.bool true)], args := [d1, d2] }
  | _ => none }
def pieceAloneRow : OpenClaim := { program := "ytjipgimnhkliaaa", sum := "190d6dcd7602e3a1b3eb7e993cf276c21c7e617f95f1ea4ac1312c2c0a4b2afa", func := "byname/bynamelaw06.PieceAlone", spec := "pieceAlone", unfollowed := true, recurses := true, apart := false }
def PieceAloneSaid : Prop := pieceAloneRow.holds Try.pinned (OpenSpec.ofChange pieceAloneSpec)

/-- ITS FALSE NEIGHBOUR: 'it returns false'. Refute it at one input. -/
def pieceAloneWrong : ChangeSpec := { name := "pieceAlone", fn := fun _ => fun
  | [d1, d2] => { results := [.lit (.bool false)], args := [d1, d2] }
  | _ => none }
def PieceAloneWrongFalsely : Prop := pieceAloneRow.holds Try.pinned (OpenSpec.ofChange pieceAloneWrong)

/-- 'bynamelaw06.PieceWrites': WHATEVER THE INPUT: true; the input reads as it did. -/
def pieceWritesSpec : ChangeSpec := { name := "pieceWrites", fn := fun _ => fun
  | [d1, d2, d3] => { results := [.lit (.bool true)], args := [d1, d2, d3] }
  | _ => none }
def pieceWritesRow : OpenClaim := { program := "ytjipgimnhkliaaa", sum := "190d6dcd7602e3a1b3eb7e993cf276c21c7e617f95f1ea4ac1312c2c0a4b2afa", func := "byname/bynamelaw06.PieceWrites", spec := "pieceWrites", unfollowed := true, recurses := true, apart := false }
def PieceWritesSaid : Prop := pieceWritesRow.holds Try.pinned (OpenSpec.ofChange pieceWritesSpec)

/-- ITS FALSE NEIGHBOUR: 'it returns false'. Refute it at one input. -/
def pieceWritesWrong : ChangeSpec := { name := "pieceWrites", fn := fun _ => fun
  | [d1, d2, d3] => { results := [.lit (.bool false)], args := [d1, d2, d3] }
  | _ => none }
def PieceWritesWrongFalsely : Prop := pieceWritesRow.holds Try.pinned (OpenSpec.ofChange pieceWritesWrong)

/-- 'bynamelaw06.PieceNames': WHATEVER THE INPUT: true; the input reads as it did. -/
def pieceNamesSpec : ChangeSpec := { name := "pieceNames", fn := fun _ => fun
  | [] => { results := [.lit (.bool true)], args := [] }
  | _ => none }
def pieceNamesRow : OpenClaim := { program := "ytjipgimnhkliaaa", sum := "190d6dcd7602e3a1b3eb7e993cf276c21c7e617f95f1ea4ac1312c2c0a4b2afa", func := "byname/bynamelaw06.PieceNames", spec := "pieceNames", unfollowed := true, recurses := true, apart := false }
def PieceNamesSaid : Prop := pieceNamesRow.holds Try.pinned (OpenSpec.ofChange pieceNamesSpec)

/-- ITS FALSE NEIGHBOUR: 'it returns false'. Refute it at one input. -/
def pieceNamesWrong : ChangeSpec := { name := "pieceNames", fn := fun _ => fun
  | [] => { results := [.lit (.bool false)], args := [] }
  | _ => none }
def PieceNamesWrongFalsely : Prop := pieceNamesRow.holds Try.pinned (OpenSpec.ofChange pieceNamesWrong)

/-- 'bynamelaw06.PieceSizes': WHATEVER THE INPUT: true; the input reads as it did. -/
def pieceSizesSpec : ChangeSpec := { name := "pieceSizes", fn := fun _ => fun
  | [d1, d2, d3] => { results := [.lit (.bool true)], args := [d1, d2, d3] }
  | _ => none }
def pieceSizesRow : OpenClaim := { program := "ytjipgimnhkliaaa", sum := "190d6dcd7602e3a1b3eb7e993cf276c21c7e617f95f1ea4ac1312c2c0a4b2afa", func := "byname/bynamelaw06.PieceSizes", spec := "pieceSizes", unfollowed := true, recurses := true, apart := false }
def PieceSizesSaid : Prop := pieceSizesRow.holds Try.pinned (OpenSpec.ofChange pieceSizesSpec)

/-- ITS FALSE NEIGHBOUR: 'it returns false'. Refute it at one input. -/
def pieceSizesWrong : ChangeSpec := { name := "pieceSizes", fn := fun _ => fun
  | [d1, d2, d3] => { results := [.lit (.bool false)], args := [d1, d2, d3] }
  | _ => none }
def PieceSizesWrongFalsely : Prop := pieceSizesRow.holds Try.pinned (OpenSpec.ofChange pieceSizesWrong)

/-- 'bynamelaw06.PieceReads': WHATEVER THE INPUT: true; the input reads as it did. -/
def pieceReadsSpec : ChangeSpec := { name := "pieceReads", fn := fun _ => fun
  | [d1, d2] => { results := [.lit (.bool true)], args := [d1, d2] }
  | _ => none }
def pieceReadsRow : OpenClaim := { program := "ytjipgimnhkliaaa", sum := "190d6dcd7602e3a1b3eb7e993cf276c21c7e617f95f1ea4ac1312c2c0a4b2afa", func := "byname/bynamelaw06.PieceReads", spec := "pieceReads", unfollowed := true, recurses := true, apart := false }
def PieceReadsSaid : Prop := pieceReadsRow.holds Try.pinned (OpenSpec.ofChange pieceReadsSpec)

/-- ITS FALSE NEIGHBOUR: 'it returns false'. Refute it at one input. -/
def pieceReadsWrong : ChangeSpec := { name := "pieceReads", fn := fun _ => fun
  | [d1, d2] => { results := [.lit (.bool false)], args := [d1, d2] }
  | _ => none }
def PieceReadsWrongFalsely : Prop := pieceReadsRow.holds Try.pinned (OpenSpec.ofChange pieceReadsWrong)

/-- 'bynamelaw06.PieceBack': WHATEVER THE INPUT: true; the input reads as it did. -/
def pieceBackSpec : ChangeSpec := { name := "pieceBack", fn := fun _ => fun
  | [d1, d2, d3] => { results := [.lit (.bool true)], args := [d1, d2, d3] }
  | _ => none }
def pieceBackRow : OpenClaim := { program := "ytjipgimnhkliaaa", sum := "190d6dcd7602e3a1b3eb7e993cf276c21c7e617f95f1ea4ac1312c2c0a4b2afa", func := "byname/bynamelaw06.PieceBack", spec := "pieceBack", unfollowed := true, recurses := true, apart := false }
def PieceBackSaid : Prop := pieceBackRow.holds Try.pinned (OpenSpec.ofChange pieceBackSpec)

/-- ITS FALSE NEIGHBOUR: 'it returns false'. Refute it at one input. -/
def pieceBackWrong : ChangeSpec := { name := "pieceBack", fn := fun _ => fun
  | [d1, d2, d3] => { results := [.lit (.bool false)], args := [d1, d2, d3] }
  | _ => none }
def PieceBackWrongFalsely : Prop := pieceBackRow.holds Try.pinned (OpenSpec.ofChange pieceBackWrong)

/- THE SECOND FORM. 'bulk': how many values and letters a reading holds, each counted each time it is reached (what is shared counts as often as it is met; a slice's spare places count too). A statement '..UptoSaid' is the law's where the arguments, and the package variables that the reading takes, are together of bulk at most 1048576: NARROWER than '..Said'. Prove '..Said' where nothing that the law and all that it calls make is longer than what came in: it says more and counts as full. Else prove '..UptoSaid'. A law counts once. -/
mutual
def uptoBulk {H : Type} : DataW H → Nat
  | .lit (.string bytes) => bytes.length + 1
  | .lit _ => 1
  | .nil => 1
  | .ptr d => uptoBulk d + 1
  | .slice elems spare => uptoBulkAll elems + uptoBulkAll spare + 1
  | .agg parts => uptoBulkAll parts + 1
  | .iface _ d => uptoBulk d + 1
  | .map entries => uptoBulkEntries entries + 1
  | .held _ => 1
def uptoBulkAll {H : Type} : List (DataW H) → Nat
  | [] => 0
  | d :: r => uptoBulk d + uptoBulkAll r
def uptoBulkEntries {H : Type} : List (Lit × DataW H) → Nat
  | [] => 0
  | x :: r => uptoBulkEntry x + uptoBulkEntries r
def uptoBulkEntry {H : Type} : Lit × DataW H → Nat
  | (.string bytes, d) => bytes.length + uptoBulk d + 1
  | (_, d) => uptoBulk d + 1
 end
def uptoSmall : (H : Type) → List (DataW H) → Bool := fun _ ds => decide (uptoBulkAll ds ≤ 1048576)
def OpenSpec.upto (s : _root_.Go.ChangeSpec) : _root_.Go.OpenSpec := { _root_.Go.OpenSpec.ofChange s with cond := some uptoSmall }

/-- 'bynamelaw13.SlabSure', WHERE WHAT IT READS IS OF BULK AT MOST 1048576: true; the input reads as it did. -/
def slabSureUptoRow : OpenClaim := { program := "ytjipgimnhkliaaa", sum := "190d6dcd7602e3a1b3eb7e993cf276c21c7e617f95f1ea4ac1312c2c0a4b2afa", func := "byname/bynamelaw13.SlabSure", spec := "slabSure", apart := false, narrowed := true }
def SlabSureUptoSaid : Prop := slabSureUptoRow.holds Try.pinned (OpenSpec.upto slabSureSpec)

/-- 'bynamelaw13.SlabWhole', WHERE WHAT IT READS IS OF BULK AT MOST 1048576: true; the input reads as it did. -/
def slabWholeUptoRow : OpenClaim := { program := "ytjipgimnhkliaaa", sum := "190d6dcd7602e3a1b3eb7e993cf276c21c7e617f95f1ea4ac1312c2c0a4b2afa", func := "byname/bynamelaw13.SlabWhole", spec := "slabWhole", apart := false, narrowed := true }
def SlabWholeUptoSaid : Prop := slabWholeUptoRow.holds Try.pinned (OpenSpec.upto slabWholeSpec)

/-- 'bynamelaw13.SlabNames', WHERE WHAT IT READS IS OF BULK AT MOST 1048576: true; the input reads as it did. -/
def slabNamesUptoRow : OpenClaim := { program := "ytjipgimnhkliaaa", sum := "190d6dcd7602e3a1b3eb7e993cf276c21c7e617f95f1ea4ac1312c2c0a4b2afa", func := "byname/bynamelaw13.SlabNames", spec := "slabNames", apart := false, narrowed := true }
def SlabNamesUptoSaid : Prop := slabNamesUptoRow.holds Try.pinned (OpenSpec.upto slabNamesSpec)

/-- 'bynamelaw13.SlabRuns', WHERE WHAT IT READS IS OF BULK AT MOST 1048576: true; the input reads as it did. -/
def slabRunsUptoRow : OpenClaim := { program := "ytjipgimnhkliaaa", sum := "190d6dcd7602e3a1b3eb7e993cf276c21c7e617f95f1ea4ac1312c2c0a4b2afa", func := "byname/bynamelaw13.SlabRuns", spec := "slabRuns", apart := false, narrowed := true }
def SlabRunsUptoSaid : Prop := slabRunsUptoRow.holds Try.pinned (OpenSpec.upto slabRunsSpec)

/-- 'bynamelaw13.SlabDown', WHERE WHAT IT READS IS OF BULK AT MOST 1048576: true; the input reads as it did. -/
def slabDownUptoRow : OpenClaim := { program := "ytjipgimnhkliaaa", sum := "190d6dcd7602e3a1b3eb7e993cf276c21c7e617f95f1ea4ac1312c2c0a4b2afa", func := "byname/bynamelaw13.SlabDown", spec := "slabDown", apart := false, narrowed := true }
def SlabDownUptoSaid : Prop := slabDownUptoRow.holds Try.pinned (OpenSpec.upto slabDownSpec)

/-- 'bynamelaw06.PieceAlone', WHERE WHAT IT READS IS OF BULK AT MOST 1048576: true; the input reads as it did. -/
def pieceAloneUptoRow : OpenClaim := { program := "ytjipgimnhkliaaa", sum := "190d6dcd7602e3a1b3eb7e993cf276c21c7e617f95f1ea4ac1312c2c0a4b2afa", func := "byname/bynamelaw06.PieceAlone", spec := "pieceAlone", unfollowed := true, recurses := true, apart := false, narrowed := true }
def PieceAloneUptoSaid : Prop := pieceAloneUptoRow.holds Try.pinned (OpenSpec.upto pieceAloneSpec)

/-- 'bynamelaw06.PieceWrites', WHERE WHAT IT READS IS OF BULK AT MOST 1048576: true; the input reads as it did. -/
def pieceWritesUptoRow : OpenClaim := { program := "ytjipgimnhkliaaa", sum := "190d6dcd7602e3a1b3eb7e993cf276c21c7e617f95f1ea4ac1312c2c0a4b2afa", func := "byname/bynamelaw06.PieceWrites", spec := "pieceWrites", unfollowed := true, recurses := true, apart := false, narrowed := true }
def PieceWritesUptoSaid : Prop := pieceWritesUptoRow.holds Try.pinned (OpenSpec.upto pieceWritesSpec)

/-- 'bynamelaw06.PieceNames', WHERE WHAT IT READS IS OF BULK AT MOST 1048576: true; the input reads as it did. -/
def pieceNamesUptoRow : OpenClaim := { program := "ytjipgimnhkliaaa", sum := "190d6dcd7602e3a1b3eb7e993cf276c21c7e617f95f1ea4ac1312c2c0a4b2afa", func := "byname/bynamelaw06.PieceNames", spec := "pieceNames", unfollowed := true, recurses := true, apart := false, narrowed := true }
def PieceNamesUptoSaid : Prop := pieceNamesUptoRow.holds Try.pinned (OpenSpec.upto pieceNamesSpec)

/-- 'bynamelaw06.PieceSizes', WHERE WHAT IT READS IS OF BULK AT MOST 1048576: true; the input reads as it did. -/
def pieceSizesUptoRow : OpenClaim := { program := "ytjipgimnhkliaaa", sum := "190d6dcd7602e3a1b3eb7e993cf276c21c7e617f95f1ea4ac1312c2c0a4b2afa", func := "byname/bynamelaw06.PieceSizes", spec := "pieceSizes", unfollowed := true, recurses := true, apart := false, narrowed := true }
def PieceSizesUptoSaid : Prop := pieceSizesUptoRow.holds Try.pinned (OpenSpec.upto pieceSizesSpec)

/-- 'bynamelaw06.PieceReads', WHERE WHAT IT READS IS OF BULK AT MOST 1048576: true; the input reads as it did. -/
def pieceReadsUptoRow : OpenClaim := { program := "ytjipgimnhkliaaa", sum := "190d6dcd7602e3a1b3eb7e993cf276c21c7e617f95f1ea4ac1312c2c0a4b2afa", func := "byname/bynamelaw06.PieceReads", spec := "pieceReads", unfollowed := true, recurses := true, apart := false, narrowed := true }
def PieceReadsUptoSaid : Prop := pieceReadsUptoRow.holds Try.pinned (OpenSpec.upto pieceReadsSpec)

/-- 'bynamelaw06.PieceBack', WHERE WHAT IT READS IS OF BULK AT MOST 1048576: true; the input reads as it did. -/
def pieceBackUptoRow : OpenClaim := { program := "ytjipgimnhkliaaa", sum := "190d6dcd7602e3a1b3eb7e993cf276c21c7e617f95f1ea4ac1312c2c0a4b2afa", func := "byname/bynamelaw06.PieceBack", spec := "pieceBack", unfollowed := true, recurses := true, apart := false, narrowed := true }
def PieceBackUptoSaid : Prop := pieceBackUptoRow.holds Try.pinned (OpenSpec.upto pieceBackSpec)

end Rows
end Go.Proofs.Ytjipgimnhkliaaa
