/-
  No cell of these rows narrows 'for every input' (looked for: loops, veiled, ifaces, maps, wideKeys, modest, calm, conditions, laid).
  DERIVED. THE GIVEN ROWS OF THIS SEAT. 6 by the template 'for every input the law returns true; each argument reads behind the call as it read before'; 0 by the template 'total and deterministic' (their statements: YtlmklpbekgnceaaTotals.lean).
  GIVEN WITH THE SEED: the statements are not yours to turn. If you find one false, say at which input.
  Laid BY PROGRAM, IN A SANDBOX (cutbox-rows.mjs): the forced cells as the released guide's own fill.sh prints them over the translation d42b790d5e2807a6… (all of the seat's roots in one cut). By AI agents, Wed Nov 11 2026. No macro, syntax, notation, axiom, sorry.
-/
import Derived.Test.YtlmklpbekgnceaaChecked
import GoSem.Claim
import GoSem.ClaimJoined
import GoSem.ClaimMapViews
import Derived.JoinedTies
import Derived.KernelRfl
namespace Go.Proofs.Ytlmklpbekgnceaa
/- THE CELL 'sum', in the pinned program and in every row, IS THE sha256 OF THE DUMP (.gsa) THAT YtlmklpbekgnceaaProg.lean LOADS. Nothing in Lean hashes anything: it is a label: what it is worth is what the hold of that sum in a sandbox is worth. -/
noncomputable def Try.pinned : Pinned := { name := "ytlmklpbekgnceaa", sum := "d42b790d5e2807a6c8a94ee04aa3c13e09d6cf285161f23b8fdfc61c8ede40e4", checked := Try.checked }
namespace Rows
def none {H : Type} : Left H := { results := [], args := [] }

/-- 'douanelaw05.FeedPuts': WHATEVER THE INPUT: true; the input reads as it did. -/
def feedPutsSpec : ChangeSpec := { name := "feedPuts", fn := fun _ => fun
  | [d1, d2, d3] => { results := [.lit (.bool true)], args := [d1, d2, d3] }
  | _ => none }
def feedPutsRow : OpenClaim := { program := "ytlmklpbekgnceaa", sum := "d42b790d5e2807a6c8a94ee04aa3c13e09d6cf285161f23b8fdfc61c8ede40e4", func := "douane/douanelaw05.FeedPuts", spec := "feedPuts", unfollowed := true, recurses := true, apart := false }
def FeedPutsSaid : Prop := feedPutsRow.holds Try.pinned (OpenSpec.ofChange feedPutsSpec)

/-- ITS FALSE NEIGHBOUR: 'it returns false'. Refute it at one input. -/
def feedPutsWrong : ChangeSpec := { name := "feedPuts", fn := fun _ => fun
  | [d1, d2, d3] => { results := [.lit (.bool false)], args := [d1, d2, d3] }
  | _ => none }
def FeedPutsWrongFalsely : Prop := feedPutsRow.holds Try.pinned (OpenSpec.ofChange feedPutsWrong)

/-- 'douanelaw05.FeedReads': WHATEVER THE INPUT: true; the input reads as it did. -/
def feedReadsSpec : ChangeSpec := { name := "feedReads", fn := fun _ => fun
  | [d1, d2] => { results := [.lit (.bool true)], args := [d1, d2] }
  | _ => none }
def feedReadsRow : OpenClaim := { program := "ytlmklpbekgnceaa", sum := "d42b790d5e2807a6c8a94ee04aa3c13e09d6cf285161f23b8fdfc61c8ede40e4", func := "douane/douanelaw05.FeedReads", spec := "feedReads", unfollowed := true, recurses := true, apart := false }
def FeedReadsSaid : Prop := feedReadsRow.holds Try.pinned (OpenSpec.ofChange feedReadsSpec)

/-- ITS FALSE NEIGHBOUR: 'it returns false'. Refute it at one input. -/
def feedReadsWrong : ChangeSpec := { name := "feedReads", fn := fun _ => fun
  | [d1, d2] => { results := [.lit (.bool false)], args := [d1, d2] }
  | _ => none }
def FeedReadsWrongFalsely : Prop := feedReadsRow.holds Try.pinned (OpenSpec.ofChange feedReadsWrong)

/-- 'douanelaw05.FeedPieces': WHATEVER THE INPUT: true; the input reads as it did. -/
def feedPiecesSpec : ChangeSpec := { name := "feedPieces", fn := fun _ => fun
  | [d1, d2] => { results := [.lit (.bool true)], args := [d1, d2] }
  | _ => none }
def feedPiecesRow : OpenClaim := { program := "ytlmklpbekgnceaa", sum := "d42b790d5e2807a6c8a94ee04aa3c13e09d6cf285161f23b8fdfc61c8ede40e4", func := "douane/douanelaw05.FeedPieces", spec := "feedPieces", unfollowed := true, recurses := true, apart := false }
def FeedPiecesSaid : Prop := feedPiecesRow.holds Try.pinned (OpenSpec.ofChange feedPiecesSpec)

/-- ITS FALSE NEIGHBOUR: 'it returns false'. Refute it at one input. -/
def feedPiecesWrong : ChangeSpec := { name := "feedPieces", fn := fun _ => fun
  | [d1, d2] => { results := [.lit (.bool false)], args := [d1, d2] }
  | _ => none }
def FeedPiecesWrongFalsely : Prop := feedPiecesRow.holds Try.pinned (OpenSpec.ofChange feedPiecesWrong)

/-- 'douanelaw05.FeedBack': WHATEVER THE INPUT: true; the input reads as it did. -/
def feedBackSpec : ChangeSpec := { name := "feedBack", fn := fun _ => fun
  | [d1, d2, d3] => { results := [.lit (.bool true)], args := [d1, d2, d3] }
  | _ => none }
def feedBackRow : OpenClaim := { program := "ytlmklpbekgnceaa", sum := "d42b790d5e2807a6c8a94ee04aa3c13e09d6cf285161f23b8fdfc61c8ede40e4", func := "douane/douanelaw05.FeedBack", spec := "feedBack", unfollowed := true, recurses := true, apart := false }
def FeedBackSaid : Prop := feedBackRow.holds Try.pinned (OpenSpec.ofChange feedBackSpec)

/-- ITS FALSE NEIGHBOUR: 'it returns false'. Refute it at one input. -/
def feedBackWrong : ChangeSpec := { name := "feedBack", fn := fun _ => fun
  | [d1, d2, d3] => { results := [.lit (.bool false)], args := [d1, d2, d3] }
  | _ => none }
def FeedBackWrongFalsely : Prop := feedBackRow.holds Try.pinned (OpenSpec.ofChange feedBackWrong)

/-- 'douanelaw05.FeedLong': WHATEVER THE INPUT: true; the input reads as it did. -/
def feedLongSpec : ChangeSpec := { name := "feedLong", fn := fun _ => fun
  | [d1, d2] => { results := [.lit (.bool true)], args := [d1, d2] }
  | _ => none }
def feedLongRow : OpenClaim := { program := "ytlmklpbekgnceaa", sum := "d42b790d5e2807a6c8a94ee04aa3c13e09d6cf285161f23b8fdfc61c8ede40e4", func := "douane/douanelaw05.FeedLong", spec := "feedLong", unfollowed := true, recurses := true, apart := false }
def FeedLongSaid : Prop := feedLongRow.holds Try.pinned (OpenSpec.ofChange feedLongSpec)

/-- ITS FALSE NEIGHBOUR: 'it returns false'. Refute it at one input. -/
def feedLongWrong : ChangeSpec := { name := "feedLong", fn := fun _ => fun
  | [d1, d2] => { results := [.lit (.bool false)], args := [d1, d2] }
  | _ => none }
def FeedLongWrongFalsely : Prop := feedLongRow.holds Try.pinned (OpenSpec.ofChange feedLongWrong)

/-- 'douanelaw05.FeedNothing': WHATEVER THE INPUT: true; the input reads as it did. -/
def feedNothingSpec : ChangeSpec := { name := "feedNothing", fn := fun _ => fun
  | [d1, d2] => { results := [.lit (.bool true)], args := [d1, d2] }
  | _ => none }
def feedNothingRow : OpenClaim := { program := "ytlmklpbekgnceaa", sum := "d42b790d5e2807a6c8a94ee04aa3c13e09d6cf285161f23b8fdfc61c8ede40e4", func := "douane/douanelaw05.FeedNothing", spec := "feedNothing", unfollowed := true, recurses := true, apart := false }
def FeedNothingSaid : Prop := feedNothingRow.holds Try.pinned (OpenSpec.ofChange feedNothingSpec)

/-- ITS FALSE NEIGHBOUR: 'it returns false'. Refute it at one input. -/
def feedNothingWrong : ChangeSpec := { name := "feedNothing", fn := fun _ => fun
  | [d1, d2] => { results := [.lit (.bool false)], args := [d1, d2] }
  | _ => none }
def FeedNothingWrongFalsely : Prop := feedNothingRow.holds Try.pinned (OpenSpec.ofChange feedNothingWrong)

/- THE SECOND FORM. 'bulk': how many values and letters a reading holds, each counted each time it is reached (what is shared counts as often as it is met; a slice's spare places count too). A statement '..UptoSaid' is the law's where the arguments, and the package variables that the reading takes, are together of bulk at most 1048576: NARROWER than '..Said'. Prove '..Said' where nothing that the law and all that it calls make is longer than what came in: it says more and counts as full. Else prove '..UptoSaid'. A law counts once. -/
mutual
def uptoBulk {H : Type} : DataW H → Nat
  | .lit (.string bytes) => bytes.length + 1
  | .lit _ => 1
  | .nil => 1
  | .ptr d => uptoBulk d + 1
  | .slice elems spare => uptoBulkAll elems + uptoBulkAll spare + 1
  | .agg parts => uptoBulkAll parts + 1
  | .iface _ d => uptoBulk d + 1
  | .map entries => uptoBulkEntries entries + 1
  | .held _ => 1
def uptoBulkAll {H : Type} : List (DataW H) → Nat
  | [] => 0
  | d :: r => uptoBulk d + uptoBulkAll r
def uptoBulkEntries {H : Type} : List (Lit × DataW H) → Nat
  | [] => 0
  | x :: r => uptoBulkEntry x + uptoBulkEntries r
def uptoBulkEntry {H : Type} : Lit × DataW H → Nat
  | (.string bytes, d) => bytes.length + uptoBulk d + 1
  | (_, d) => uptoBulk d + 1
 end
def uptoSmall : (H : Type) → List (DataW H) → Bool := fun _ ds => decide (uptoBulkAll ds ≤ 1048576)
def OpenSpec.upto (s : _root_.Go.ChangeSpec) : _root_.Go.OpenSpec := { _root_.Go.OpenSpec.ofChange s with cond := some uptoSmall }

/-- 'douanelaw05.FeedPuts', WHERE WHAT IT READS IS OF BULK AT MOST 1048576: true; the input reads as it did. -/
def feedPutsUptoRow : OpenClaim := { program := "ytlmklpbekgnceaa", sum := "d42b790d5e2807a6c8a94ee04aa3c13e09d6cf285161f23b8fdfc61c8ede40e4", func := "douane/douanelaw05.FeedPuts", spec := "feedPuts", unfollowed := true, recurses := true, apart := false, narrowed := true }
def FeedPutsUptoSaid : Prop := feedPutsUptoRow.holds Try.pinned (OpenSpec.upto feedPutsSpec)

/-- 'douanelaw05.FeedReads', WHERE WHAT IT READS IS OF BULK AT MOST 1048576: true; the input reads as it did. -/
def feedReadsUptoRow : OpenClaim := { program := "ytlmklpbekgnceaa", sum := "d42b790d5e2807a6c8a94ee04aa3c13e09d6cf285161f23b8fdfc61c8ede40e4", func := "douane/douanelaw05.FeedReads", spec := "feedReads", unfollowed := true, recurses := true, apart := false, narrowed := true }
def FeedReadsUptoSaid : Prop := feedReadsUptoRow.holds Try.pinned (OpenSpec.upto feedReadsSpec)

/-- 'douanelaw05.FeedPieces', WHERE WHAT IT READS IS OF BULK AT MOST 1048576: true; the input reads as it did. -/
def feedPiecesUptoRow : OpenClaim := { program := "ytlmklpbekgnceaa", sum := "d42b790d5e2807a6c8a94ee04aa3c13e09d6cf285161f23b8fdfc61c8ede40e4", func := "douane/douanelaw05.FeedPieces", spec := "feedPieces", unfollowed := true, recurses := true, apart := false, narrowed := true }
def FeedPiecesUptoSaid : Prop := feedPiecesUptoRow.holds Try.pinned (OpenSpec.upto feedPiecesSpec)

/-- 'douanelaw05.FeedBack', WHERE WHAT IT READS IS OF BULK AT MOST 1048576: true; the input reads as it did. -/
def feedBackUptoRow : OpenClaim := { program := "ytlmklpbekgnceaa", sum := "d42b790d5e2807a6c8a94ee04aa3c13e09d6cf285161f23b8fdfc61c8ede40e4", func := "douane/douanelaw05.FeedBack", spec := "feedBack", unfollowed := true, recurses := true, apart := false, narrowed := true }
def FeedBackUptoSaid : Prop := feedBackUptoRow.holds Try.pinned (OpenSpec.upto feedBackSpec)

/-- 'douanelaw05.FeedLong', WHERE WHAT IT READS IS OF BULK AT MOST 1048576: true; the input reads as it did. -/
def feedLongUptoRow : OpenClaim := { program := "ytlmklpbekgnceaa", sum := "d42b790d5e2807a6c8a94ee04aa3c13e09d6cf285161f23b8fdfc61c8ede40e4", func := "douane/douanelaw05.FeedLong", spec := "feedLong", unfollowed := true, recurses := true, apart := false, narrowed := true }
def FeedLongUptoSaid : Prop := feedLongUptoRow.holds Try.pinned (OpenSpec.upto feedLongSpec)

/-- 'douanelaw05.FeedNothing', WHERE WHAT IT READS IS OF BULK AT MOST 1048576: true; the input reads as it did. -/
def feedNothingUptoRow : OpenClaim := { program := "ytlmklpbekgnceaa", sum := "d42b790d5e2807a6c8a94ee04aa3c13e09d6cf285161f23b8fdfc61c8ede40e4", func := "douane/douanelaw05.FeedNothing", spec := "feedNothing", unfollowed := true, recurses := true, apart := false, narrowed := true }
def FeedNothingUptoSaid : Prop := feedNothingUptoRow.holds Try.pinned (OpenSpec.upto feedNothingSpec)

end Rows
end Go.Proofs.Ytlmklpbekgnceaa
