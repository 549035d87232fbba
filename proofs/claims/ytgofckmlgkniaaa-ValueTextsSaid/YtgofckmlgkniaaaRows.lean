/-
  NARROWER THAN 'FOR EVERY INPUT', by the rows' own cells (each row's printed sentence says how): BinPuts: loops · BinBack: loops · BinOne: loops · ValueTexts: loops · ValueLists: loops.
  DERIVED. THE GIVEN ROWS OF THIS SEAT. 8 by the template 'for every input the law returns true; each argument reads behind the call as it read before'; 0 by the template 'total and deterministic' (their statements: YtgofckmlgkniaaaTotals.lean).
  GIVEN WITH THE SEED: the statements are not yours to turn. If you find one false, say at which input.
  Laid BY PROGRAM, IN A SANDBOX (cutbox-rows.mjs): the forced cells as the released guide's own fill.sh prints them over the translation 7b6712e1e68230b0… (all of the seat's roots in one cut). By AI agents, Wed Nov 11 2026. No macro, syntax, notation, axiom, sorry.
-/
import Derived.Test.YtgofckmlgkniaaaChecked
import GoSem.Claim
import GoSem.ClaimJoined
import GoSem.ClaimMapViews
import Derived.JoinedTies
import Derived.KernelRfl
namespace Go.Proofs.Ytgofckmlgkniaaa
/- THE CELL 'sum', in the pinned program and in every row, IS THE sha256 OF THE DUMP (.gsa) THAT YtgofckmlgkniaaaProg.lean LOADS. Nothing in Lean hashes anything: it is a label: what it is worth is what the hold of that sum in a sandbox is worth. -/
noncomputable def Try.pinned : Pinned := { name := "ytgofckmlgkniaaa", sum := "7b6712e1e68230b0dffdbd429b0b66dfa29a4a71b84a9dcb348e08c878c8655a", checked := Try.checked }
namespace Rows
def none {H : Type} : Left H := { results := [], args := [] }

/-- 'douanelaw06.BinPuts': WHATEVER THE INPUT: true; the input reads as it did. -/
def binPutsSpec : ChangeSpec := { name := "binPuts", fn := fun _ => fun
  | [d1, d2, d3, d4] => { results := [.lit (.bool true)], args := [d1, d2, d3, d4] }
  | _ => none }
def binPutsRow : OpenClaim := { program := "ytgofckmlgkniaaa", sum := "7b6712e1e68230b0dffdbd429b0b66dfa29a4a71b84a9dcb348e08c878c8655a", func := "douane/douanelaw06.BinPuts", spec := "binPuts", unfollowed := true, recurses := true, loops := true, apart := false }
def BinPutsSaid : Prop := binPutsRow.holds Try.pinned (OpenSpec.ofChange binPutsSpec)

/-- ITS FALSE NEIGHBOUR: 'it returns false'. Refute it at one input. -/
def binPutsWrong : ChangeSpec := { name := "binPuts", fn := fun _ => fun
  | [d1, d2, d3, d4] => { results := [.lit (.bool false)], args := [d1, d2, d3, d4] }
  | _ => none }
def BinPutsWrongFalsely : Prop := binPutsRow.holds Try.pinned (OpenSpec.ofChange binPutsWrong)

/-- 'douanelaw06.BinReads': WHATEVER THE INPUT: true; the input reads as it did. -/
def binReadsSpec : ChangeSpec := { name := "binReads", fn := fun _ => fun
  | [d1, d2] => { results := [.lit (.bool true)], args := [d1, d2] }
  | _ => none }
def binReadsRow : OpenClaim := { program := "ytgofckmlgkniaaa", sum := "7b6712e1e68230b0dffdbd429b0b66dfa29a4a71b84a9dcb348e08c878c8655a", func := "douane/douanelaw06.BinReads", spec := "binReads", unfollowed := true, recurses := true, apart := false }
def BinReadsSaid : Prop := binReadsRow.holds Try.pinned (OpenSpec.ofChange binReadsSpec)

/-- ITS FALSE NEIGHBOUR: 'it returns false'. Refute it at one input. -/
def binReadsWrong : ChangeSpec := { name := "binReads", fn := fun _ => fun
  | [d1, d2] => { results := [.lit (.bool false)], args := [d1, d2] }
  | _ => none }
def BinReadsWrongFalsely : Prop := binReadsRow.holds Try.pinned (OpenSpec.ofChange binReadsWrong)

/-- 'douanelaw06.BinBack': WHATEVER THE INPUT: true; the input reads as it did. -/
def binBackSpec : ChangeSpec := { name := "binBack", fn := fun _ => fun
  | [d1, d2, d3, d4, d5] => { results := [.lit (.bool true)], args := [d1, d2, d3, d4, d5] }
  | _ => none }
def binBackRow : OpenClaim := { program := "ytgofckmlgkniaaa", sum := "7b6712e1e68230b0dffdbd429b0b66dfa29a4a71b84a9dcb348e08c878c8655a", func := "douane/douanelaw06.BinBack", spec := "binBack", unfollowed := true, recurses := true, loops := true, apart := false }
def BinBackSaid : Prop := binBackRow.holds Try.pinned (OpenSpec.ofChange binBackSpec)

/-- ITS FALSE NEIGHBOUR: 'it returns false'. Refute it at one input. -/
def binBackWrong : ChangeSpec := { name := "binBack", fn := fun _ => fun
  | [d1, d2, d3, d4, d5] => { results := [.lit (.bool false)], args := [d1, d2, d3, d4, d5] }
  | _ => none }
def BinBackWrongFalsely : Prop := binBackRow.holds Try.pinned (OpenSpec.ofChange binBackWrong)

/-- 'douanelaw06.BinOne': WHATEVER THE INPUT: true; the input reads as it did. -/
def binOneSpec : ChangeSpec := { name := "binOne", fn := fun _ => fun
  | [d1, d2, d3] => { results := [.lit (.bool true)], args := [d1, d2, d3] }
  | _ => none }
def binOneRow : OpenClaim := { program := "ytgofckmlgkniaaa", sum := "7b6712e1e68230b0dffdbd429b0b66dfa29a4a71b84a9dcb348e08c878c8655a", func := "douane/douanelaw06.BinOne", spec := "binOne", unfollowed := true, recurses := true, loops := true, apart := false }
def BinOneSaid : Prop := binOneRow.holds Try.pinned (OpenSpec.ofChange binOneSpec)

/-- ITS FALSE NEIGHBOUR: 'it returns false'. Refute it at one input. -/
def binOneWrong : ChangeSpec := { name := "binOne", fn := fun _ => fun
  | [d1, d2, d3] => { results := [.lit (.bool false)], args := [d1, d2, d3] }
  | _ => none }
def BinOneWrongFalsely : Prop := binOneRow.holds Try.pinned (OpenSpec.ofChange binOneWrong)

/-- 'douanelaw06.BinParts': WHATEVER THE INPUT: true; the input reads as it did. -/
def binPartsSpec : ChangeSpec := { name := "binParts", fn := fun _ => fun
  | [d1, d2] => { results := [.lit (.bool true)], args := [d1, d2] }
  | _ => none }
def binPartsRow : OpenClaim := { program := "ytgofckmlgkniaaa", sum := "7b6712e1e68230b0dffdbd429b0b66dfa29a4a71b84a9dcb348e08c878c8655a", func := "douane/douanelaw06.BinParts", spec := "binParts", unfollowed := true, recurses := true, apart := false }
def BinPartsSaid : Prop := binPartsRow.holds Try.pinned (OpenSpec.ofChange binPartsSpec)

/-- ITS FALSE NEIGHBOUR: 'it returns false'. Refute it at one input. -/
def binPartsWrong : ChangeSpec := { name := "binParts", fn := fun _ => fun
  | [d1, d2] => { results := [.lit (.bool false)], args := [d1, d2] }
  | _ => none }
def BinPartsWrongFalsely : Prop := binPartsRow.holds Try.pinned (OpenSpec.ofChange binPartsWrong)

/-- 'douanelaw03.ValueTexts': WHATEVER THE INPUT: true; the input reads as it did. -/
def valueTextsSpec : ChangeSpec := { name := "valueTexts", fn := fun _ => fun
  | [d1, d2, d3] => { results := [.lit (.bool true)], args := [d1, d2, d3] }
  | _ => none }
def valueTextsRow : OpenClaim := { program := "ytgofckmlgkniaaa", sum := "7b6712e1e68230b0dffdbd429b0b66dfa29a4a71b84a9dcb348e08c878c8655a", func := "douane/douanelaw03.ValueTexts", spec := "valueTexts", inPlace := ["internal/abi.NoEscape", "internal/bytealg.MakeNoZero"], unfollowed := true, recurses := true, loops := true, apart := false }
def ValueTextsSaid : Prop := valueTextsRow.holds Try.pinned (OpenSpec.ofChange valueTextsSpec)

/-- ITS FALSE NEIGHBOUR: 'it returns false'. Refute it at one input. -/
def valueTextsWrong : ChangeSpec := { name := "valueTexts", fn := fun _ => fun
  | [d1, d2, d3] => { results := [.lit (.bool false)], args := [d1, d2, d3] }
  | _ => none }
def ValueTextsWrongFalsely : Prop := valueTextsRow.holds Try.pinned (OpenSpec.ofChange valueTextsWrong)

/-- 'douanelaw03.ValueLists': WHATEVER THE INPUT: true; the input reads as it did. -/
def valueListsSpec : ChangeSpec := { name := "valueLists", fn := fun _ => fun
  | [d1, d2] => { results := [.lit (.bool true)], args := [d1, d2] }
  | _ => none }
def valueListsRow : OpenClaim := { program := "ytgofckmlgkniaaa", sum := "7b6712e1e68230b0dffdbd429b0b66dfa29a4a71b84a9dcb348e08c878c8655a", func := "douane/douanelaw03.ValueLists", spec := "valueLists", inPlace := ["internal/abi.NoEscape", "internal/bytealg.MakeNoZero"], unfollowed := true, recurses := true, loops := true, apart := false }
def ValueListsSaid : Prop := valueListsRow.holds Try.pinned (OpenSpec.ofChange valueListsSpec)

/-- ITS FALSE NEIGHBOUR: 'it returns false'. Refute it at one input. -/
def valueListsWrong : ChangeSpec := { name := "valueLists", fn := fun _ => fun
  | [d1, d2] => { results := [.lit (.bool false)], args := [d1, d2] }
  | _ => none }
def ValueListsWrongFalsely : Prop := valueListsRow.holds Try.pinned (OpenSpec.ofChange valueListsWrong)

/-- 'douanelaw03.ValueNames': WHATEVER THE INPUT: true; the input reads as it did. -/
def valueNamesSpec : ChangeSpec := { name := "valueNames", fn := fun _ => fun
  | [d1, d2] => { results := [.lit (.bool true)], args := [d1, d2] }
  | _ => none }
def valueNamesRow : OpenClaim := { program := "ytgofckmlgkniaaa", sum := "7b6712e1e68230b0dffdbd429b0b66dfa29a4a71b84a9dcb348e08c878c8655a", func := "douane/douanelaw03.ValueNames", spec := "valueNames", inPlace := ["internal/abi.NoEscape", "internal/bytealg.MakeNoZero"], unfollowed := true, recurses := true, apart := false }
def ValueNamesSaid : Prop := valueNamesRow.holds Try.pinned (OpenSpec.ofChange valueNamesSpec)

/-- ITS FALSE NEIGHBOUR: 'it returns false'. Refute it at one input. -/
def valueNamesWrong : ChangeSpec := { name := "valueNames", fn := fun _ => fun
  | [d1, d2] => { results := [.lit (.bool false)], args := [d1, d2] }
  | _ => none }
def ValueNamesWrongFalsely : Prop := valueNamesRow.holds Try.pinned (OpenSpec.ofChange valueNamesWrong)

/- THE SECOND FORM. 'bulk': how many values and letters a reading holds, each counted each time it is reached (what is shared counts as often as it is met; a slice's spare places count too). A statement '..UptoSaid' is the law's where the arguments, and the package variables that the reading takes, are together of bulk at most 1048576: NARROWER than '..Said'. Prove '..Said' where nothing that the law and all that it calls make is longer than what came in: it says more and counts as full. Else prove '..UptoSaid'. A law counts once. -/
mutual
def uptoBulk {H : Type} : DataW H → Nat
  | .lit (.string bytes) => bytes.length + 1
  | .lit _ => 1
  | .nil => 1
  | .ptr d => uptoBulk d + 1
  | .slice elems spare => uptoBulkAll elems + uptoBulkAll spare + 1
  | .agg parts => uptoBulkAll parts + 1
  | .iface _ d => uptoBulk d + 1
  | .map entries => uptoBulkEntries entries + 1
  | .held _ => 1
def uptoBulkAll {H : Type} : List (DataW H) → Nat
  | [] => 0
  | d :: r => uptoBulk d + uptoBulkAll r
def uptoBulkEntries {H : Type} : List (Lit × DataW H) → Nat
  | [] => 0
  | x :: r => uptoBulkEntry x + uptoBulkEntries r
def uptoBulkEntry {H : Type} : Lit × DataW H → Nat
  | (.string bytes, d) => bytes.length + uptoBulk d + 1
  | (_, d) => uptoBulk d + 1
 end
def uptoSmall : (H : Type) → List (DataW H) → Bool := fun _ ds => decide (uptoBulkAll ds ≤ 1048576)
def OpenSpec.upto (s : _root_.Go.ChangeSpec) : _root_.Go.OpenSpec := { _root_.Go.OpenSpec.ofChange s with cond := some uptoSmall }

/-- 'douanelaw06.BinPuts', WHERE WHAT IT READS IS OF BULK AT MOST 1048576: true; the input reads as it did. -/
def binPutsUptoRow : OpenClaim := { program := "ytgofckmlgkniaaa", sum := "7b6712e1e68230b0dffdbd429b0b66dfa29a4a71b84a9dcb348e08c878c8655a", func := "douane/douanelaw06.BinPuts", spec := "binPuts", unfollowed := true, recurses := true, loops := true, apart := false, narrowed := true }
def BinPutsUptoSaid : Prop := binPutsUptoRow.holds Try.pinned (OpenSpec.upto binPutsSpec)

/-- 'douanelaw06.BinReads', WHERE WHAT IT READS IS OF BULK AT MOST 1048576: true; the input reads as it did. -/
def binReadsUptoRow : OpenClaim := { program := "ytgofckmlgkniaaa", sum := "7b6712e1e68230b0dffdbd429b0b66dfa29a4a71b84a9dcb348e08c878c8655a", func := "douane/douanelaw06.BinReads", spec := "binReads", unfollowed := true, recurses := true, apart := false, narrowed := true }
def BinReadsUptoSaid : Prop := binReadsUptoRow.holds Try.pinned (OpenSpec.upto binReadsSpec)

/-- 'douanelaw06.BinBack', WHERE WHAT IT READS IS OF BULK AT MOST 1048576: true; the input reads as it did. -/
def binBackUptoRow : OpenClaim := { program := "ytgofckmlgkniaaa", sum := "7b6712e1e68230b0dffdbd429b0b66dfa29a4a71b84a9dcb348e08c878c8655a", func := "douane/douanelaw06.BinBack", spec := "binBack", unfollowed := true, recurses := true, loops := true, apart := false, narrowed := true }
def BinBackUptoSaid : Prop := binBackUptoRow.holds Try.pinned (OpenSpec.upto binBackSpec)

/-- 'douanelaw06.BinOne', WHERE WHAT IT READS IS OF BULK AT MOST 1048576: true; the input reads as it did. -/
def binOneUptoRow : OpenClaim := { program := "ytgofckmlgkniaaa", sum := "7b6712e1e68230b0dffdbd429b0b66dfa29a4a71b84a9dcb348e08c878c8655a", func := "douane/douanelaw06.BinOne", spec := "binOne", unfollowed := true, recurses := true, loops := true, apart := false, narrowed := true }
def BinOneUptoSaid : Prop := binOneUptoRow.holds Try.pinned (OpenSpec.upto binOneSpec)

/-- 'douanelaw06.BinParts', WHERE WHAT IT READS IS OF BULK AT MOST 1048576: true; the input reads as it did. -/
def binPartsUptoRow : OpenClaim := { program := "ytgofckmlgkniaaa", sum := "7b6712e1e68230b0dffdbd429b0b66dfa29a4a71b84a9dcb348e08c878c8655a", func := "douane/douanelaw06.BinParts", spec := "binParts", unfollowed := true, recurses := true, apart := false, narrowed := true }
def BinPartsUptoSaid : Prop := binPartsUptoRow.holds Try.pinned (OpenSpec.upto binPartsSpec)

/-- 'douanelaw03.ValueTexts', WHERE WHAT IT READS IS OF BULK AT MOST 1048576: true; the input reads as it did. -/
def valueTextsUptoRow : OpenClaim := { program := "ytgofckmlgkniaaa", sum := "7b6712e1e68230b0dffdbd429b0b66dfa29a4a71b84a9dcb348e08c878c8655a", func := "douane/douanelaw03.ValueTexts", spec := "valueTexts", inPlace := ["internal/abi.NoEscape", "internal/bytealg.MakeNoZero"], unfollowed := true, recurses := true, loops := true, apart := false, narrowed := true }
def ValueTextsUptoSaid : Prop := valueTextsUptoRow.holds Try.pinned (OpenSpec.upto valueTextsSpec)

/-- 'douanelaw03.ValueLists', WHERE WHAT IT READS IS OF BULK AT MOST 1048576: true; the input reads as it did. -/
def valueListsUptoRow : OpenClaim := { program := "ytgofckmlgkniaaa", sum := "7b6712e1e68230b0dffdbd429b0b66dfa29a4a71b84a9dcb348e08c878c8655a", func := "douane/douanelaw03.ValueLists", spec := "valueLists", inPlace := ["internal/abi.NoEscape", "internal/bytealg.MakeNoZero"], unfollowed := true, recurses := true, loops := true, apart := false, narrowed := true }
def ValueListsUptoSaid : Prop := valueListsUptoRow.holds Try.pinned (OpenSpec.upto valueListsSpec)

/-- 'douanelaw03.ValueNames', WHERE WHAT IT READS IS OF BULK AT MOST 1048576: true; the input reads as it did. -/
def valueNamesUptoRow : OpenClaim := { program := "ytgofckmlgkniaaa", sum := "7b6712e1e68230b0dffdbd429b0b66dfa29a4a71b84a9dcb348e08c878c8655a", func := "douane/douanelaw03.ValueNames", spec := "valueNames", inPlace := ["internal/abi.NoEscape", "internal/bytealg.MakeNoZero"], unfollowed := true, recurses := true, apart := false, narrowed := true }
def ValueNamesUptoSaid : Prop := valueNamesUptoRow.holds Try.pinned (OpenSpec.upto valueNamesSpec)

end Rows
end Go.Proofs.Ytgofckmlgkniaaa
