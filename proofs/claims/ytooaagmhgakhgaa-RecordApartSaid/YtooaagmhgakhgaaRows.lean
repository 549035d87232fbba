/-
  NARROWER THAN 'FOR EVERY INPUT', by the rows' own cells (each row's printed sentence says how): SchemaFits: loops · SchemaFirst: loops · CastBack: loops · CastDrops: loops · CastNewest: loops · CastFits: loops · RecordNames: loops · RecordApart: loops.
  DERIVED. THE GIVEN ROWS OF THIS SEAT. 8 by the template 'for every input the law returns true; each argument reads behind the call as it read before'; 0 by the template 'total and deterministic' (their statements: YtooaagmhgakhgaaTotals.lean).
  GIVEN WITH THE SEED: the statements are not yours to turn. If you find one false, say at which input.
  Laid BY PROGRAM, IN A SANDBOX (cutbox-rows.mjs): the forced cells as the released guide's own fill.sh prints them over the translation fe41433a24b9c0ff… (all of the seat's roots in one cut). By AI agents, Wed Nov 11 2026. No macro, syntax, notation, axiom, sorry.
-/
import Derived.Test.YtooaagmhgakhgaaChecked
import GoSem.Claim
import GoSem.ClaimJoined
import GoSem.ClaimMapViews
import Derived.JoinedTies
import Derived.KernelRfl
namespace Go.Proofs.Ytooaagmhgakhgaa
/- THE CELL 'sum', in the pinned program and in every row, IS THE sha256 OF THE DUMP (.gsa) THAT YtooaagmhgakhgaaProg.lean LOADS. Nothing in Lean hashes anything: it is a label: what it is worth is what the hold of that sum in a sandbox is worth. -/
noncomputable def Try.pinned : Pinned := { name := "ytooaagmhgakhgaa", sum := "fe41433a24b9c0ff9ce4c012ce07fa05ba05753aaa9b34b79f37da3cb2e4709d", checked := Try.checked }
namespace Rows
def none {H : Type} : Left H := { results := [], args := [] }

/-- 'douanelaw10.SchemaFits': WHATEVER THE INPUT: true; the input reads as it did. -/
def schemaFitsSpec : ChangeSpec := { name := "schemaFits", fn := fun _ => fun
  | [d1, d2] => { results := [.lit (.bool true)], args := [d1, d2] }
  | _ => none }
def schemaFitsRow : OpenClaim := { program := "ytooaagmhgakhgaa", sum := "fe41433a24b9c0ff9ce4c012ce07fa05ba05753aaa9b34b79f37da3cb2e4709d", func := "douane/douanelaw10.SchemaFits", spec := "schemaFits", unfollowed := true, recurses := true, loops := true, apart := false }
def SchemaFitsSaid : Prop := schemaFitsRow.holds Try.pinned (OpenSpec.ofChange schemaFitsSpec)

/-- ITS FALSE NEIGHBOUR: 'it returns false'. Refute it at one input. -/
def schemaFitsWrong : ChangeSpec := { name := "schemaFits", fn := fun _ => fun
  | [d1, d2] => { results := [.lit (.bool false)], args := [d1, d2] }
  | _ => none }
def SchemaFitsWrongFalsely : Prop := schemaFitsRow.holds Try.pinned (OpenSpec.ofChange schemaFitsWrong)

/-- 'douanelaw10.SchemaFirst': WHATEVER THE INPUT: true; the input reads as it did. -/
def schemaFirstSpec : ChangeSpec := { name := "schemaFirst", fn := fun _ => fun
  | [d1, d2] => { results := [.lit (.bool true)], args := [d1, d2] }
  | _ => none }
def schemaFirstRow : OpenClaim := { program := "ytooaagmhgakhgaa", sum := "fe41433a24b9c0ff9ce4c012ce07fa05ba05753aaa9b34b79f37da3cb2e4709d", func := "douane/douanelaw10.SchemaFirst", spec := "schemaFirst", unfollowed := true, recurses := true, loops := true, apart := false }
def SchemaFirstSaid : Prop := schemaFirstRow.holds Try.pinned (OpenSpec.ofChange schemaFirstSpec)

/-- ITS FALSE NEIGHBOUR: 'it returns false'. Refute it at one input. -/
def schemaFirstWrong : ChangeSpec := { name := "schemaFirst", fn := fun _ => fun
  | [d1, d2] => { results := [.lit (.bool false)], args := [d1, d2] }
  | _ => none }
def SchemaFirstWrongFalsely : Prop := schemaFirstRow.holds Try.pinned (OpenSpec.ofChange schemaFirstWrong)

/-- 'douanelaw12.CastBack': WHATEVER THE INPUT: true; the input reads as it did. -/
def castBackSpec : ChangeSpec := { name := "castBack", fn := fun _ => fun
  | [d1, d2, d3, d4] => { results := [.lit (.bool true)], args := [d1, d2, d3, d4] }
  | _ => none }
def castBackRow : OpenClaim := { program := "ytooaagmhgakhgaa", sum := "fe41433a24b9c0ff9ce4c012ce07fa05ba05753aaa9b34b79f37da3cb2e4709d", func := "douane/douanelaw12.CastBack", spec := "castBack", unfollowed := true, recurses := true, loops := true, apart := false }
def CastBackSaid : Prop := castBackRow.holds Try.pinned (OpenSpec.ofChange castBackSpec)

/-- ITS FALSE NEIGHBOUR: 'it returns false'. Refute it at one input. -/
def castBackWrong : ChangeSpec := { name := "castBack", fn := fun _ => fun
  | [d1, d2, d3, d4] => { results := [.lit (.bool false)], args := [d1, d2, d3, d4] }
  | _ => none }
def CastBackWrongFalsely : Prop := castBackRow.holds Try.pinned (OpenSpec.ofChange castBackWrong)

/-- 'douanelaw12.CastDrops': WHATEVER THE INPUT: true; the input reads as it did. -/
def castDropsSpec : ChangeSpec := { name := "castDrops", fn := fun _ => fun
  | [d1, d2, d3] => { results := [.lit (.bool true)], args := [d1, d2, d3] }
  | _ => none }
def castDropsRow : OpenClaim := { program := "ytooaagmhgakhgaa", sum := "fe41433a24b9c0ff9ce4c012ce07fa05ba05753aaa9b34b79f37da3cb2e4709d", func := "douane/douanelaw12.CastDrops", spec := "castDrops", unfollowed := true, recurses := true, loops := true, apart := false }
def CastDropsSaid : Prop := castDropsRow.holds Try.pinned (OpenSpec.ofChange castDropsSpec)

/-- ITS FALSE NEIGHBOUR: 'it returns false'. Refute it at one input. -/
def castDropsWrong : ChangeSpec := { name := "castDrops", fn := fun _ => fun
  | [d1, d2, d3] => { results := [.lit (.bool false)], args := [d1, d2, d3] }
  | _ => none }
def CastDropsWrongFalsely : Prop := castDropsRow.holds Try.pinned (OpenSpec.ofChange castDropsWrong)

/-- 'douanelaw12.CastNewest': WHATEVER THE INPUT: true; the input reads as it did. -/
def castNewestSpec : ChangeSpec := { name := "castNewest", fn := fun _ => fun
  | [d1, d2, d3] => { results := [.lit (.bool true)], args := [d1, d2, d3] }
  | _ => none }
def castNewestRow : OpenClaim := { program := "ytooaagmhgakhgaa", sum := "fe41433a24b9c0ff9ce4c012ce07fa05ba05753aaa9b34b79f37da3cb2e4709d", func := "douane/douanelaw12.CastNewest", spec := "castNewest", unfollowed := true, recurses := true, loops := true, apart := false }
def CastNewestSaid : Prop := castNewestRow.holds Try.pinned (OpenSpec.ofChange castNewestSpec)

/-- ITS FALSE NEIGHBOUR: 'it returns false'. Refute it at one input. -/
def castNewestWrong : ChangeSpec := { name := "castNewest", fn := fun _ => fun
  | [d1, d2, d3] => { results := [.lit (.bool false)], args := [d1, d2, d3] }
  | _ => none }
def CastNewestWrongFalsely : Prop := castNewestRow.holds Try.pinned (OpenSpec.ofChange castNewestWrong)

/-- 'douanelaw12.CastFits': WHATEVER THE INPUT: true; the input reads as it did. -/
def castFitsSpec : ChangeSpec := { name := "castFits", fn := fun _ => fun
  | [d1, d2, d3] => { results := [.lit (.bool true)], args := [d1, d2, d3] }
  | _ => none }
def castFitsRow : OpenClaim := { program := "ytooaagmhgakhgaa", sum := "fe41433a24b9c0ff9ce4c012ce07fa05ba05753aaa9b34b79f37da3cb2e4709d", func := "douane/douanelaw12.CastFits", spec := "castFits", unfollowed := true, recurses := true, loops := true, apart := false }
def CastFitsSaid : Prop := castFitsRow.holds Try.pinned (OpenSpec.ofChange castFitsSpec)

/-- ITS FALSE NEIGHBOUR: 'it returns false'. Refute it at one input. -/
def castFitsWrong : ChangeSpec := { name := "castFits", fn := fun _ => fun
  | [d1, d2, d3] => { results := [.lit (.bool false)], args := [d1, d2, d3] }
  | _ => none }
def CastFitsWrongFalsely : Prop := castFitsRow.holds Try.pinned (OpenSpec.ofChange castFitsWrong)

/-- 'douanelaw11.RecordNames': WHATEVER THE INPUT: true; the input reads as it did. -/
def recordNamesSpec : ChangeSpec := { name := "recordNames", fn := fun _ => fun
  | [d1, d2, d3, d4] => { results := [.lit (.bool true)], args := [d1, d2, d3, d4] }
  | _ => none }
def recordNamesRow : OpenClaim := { program := "ytooaagmhgakhgaa", sum := "fe41433a24b9c0ff9ce4c012ce07fa05ba05753aaa9b34b79f37da3cb2e4709d", func := "douane/douanelaw11.RecordNames", spec := "recordNames", unfollowed := true, recurses := true, loops := true, apart := false }
def RecordNamesSaid : Prop := recordNamesRow.holds Try.pinned (OpenSpec.ofChange recordNamesSpec)

/-- ITS FALSE NEIGHBOUR: 'it returns false'. Refute it at one input. -/
def recordNamesWrong : ChangeSpec := { name := "recordNames", fn := fun _ => fun
  | [d1, d2, d3, d4] => { results := [.lit (.bool false)], args := [d1, d2, d3, d4] }
  | _ => none }
def RecordNamesWrongFalsely : Prop := recordNamesRow.holds Try.pinned (OpenSpec.ofChange recordNamesWrong)

/-- 'douanelaw11.RecordApart': WHATEVER THE INPUT: true; the input reads as it did. -/
def recordApartSpec : ChangeSpec := { name := "recordApart", fn := fun _ => fun
  | [d1, d2, d3] => { results := [.lit (.bool true)], args := [d1, d2, d3] }
  | _ => none }
def recordApartRow : OpenClaim := { program := "ytooaagmhgakhgaa", sum := "fe41433a24b9c0ff9ce4c012ce07fa05ba05753aaa9b34b79f37da3cb2e4709d", func := "douane/douanelaw11.RecordApart", spec := "recordApart", unfollowed := true, recurses := true, loops := true, apart := false }
def RecordApartSaid : Prop := recordApartRow.holds Try.pinned (OpenSpec.ofChange recordApartSpec)

/-- ITS FALSE NEIGHBOUR: 'it returns false'. Refute it at one input. -/
def recordApartWrong : ChangeSpec := { name := "recordApart", fn := fun _ => fun
  | [d1, d2, d3] => { results := [.lit (.bool false)], args := [d1, d2, d3] }
  | _ => none }
def RecordApartWrongFalsely : Prop := recordApartRow.holds Try.pinned (OpenSpec.ofChange recordApartWrong)

/- THE SECOND FORM. 'bulk': how many values and letters a reading holds, each counted each time it is reached (what is shared counts as often as it is met; a slice's spare places count too). A statement '..UptoSaid' is the law's where the arguments, and the package variables that the reading takes, are together of bulk at most 1048576: NARROWER than '..Said'. Prove '..Said' where nothing that the law and all that it calls make is longer than what came in: it says more and counts as full. Else prove '..UptoSaid'. A law counts once. -/
mutual
def uptoBulk {H : Type} : DataW H → Nat
  | .lit (.string bytes) => bytes.length + 1
  | .lit _ => 1
  | .nil => 1
  | .ptr d => uptoBulk d + 1
  | .slice elems spare => uptoBulkAll elems + uptoBulkAll spare + 1
  | .agg parts => uptoBulkAll parts + 1
  | .iface _ d => uptoBulk d + 1
  | .map entries => uptoBulkEntries entries + 1
  | .held _ => 1
def uptoBulkAll {H : Type} : List (DataW H) → Nat
  | [] => 0
  | d :: r => uptoBulk d + uptoBulkAll r
def uptoBulkEntries {H : Type} : List (Lit × DataW H) → Nat
  | [] => 0
  | x :: r => uptoBulkEntry x + uptoBulkEntries r
def uptoBulkEntry {H : Type} : Lit × DataW H → Nat
  | (.string bytes, d) => bytes.length + uptoBulk d + 1
  | (_, d) => uptoBulk d + 1
 end
def uptoSmall : (H : Type) → List (DataW H) → Bool := fun _ ds => decide (uptoBulkAll ds ≤ 1048576)
def OpenSpec.upto (s : _root_.Go.ChangeSpec) : _root_.Go.OpenSpec := { _root_.Go.OpenSpec.ofChange s with cond := some uptoSmall }

/-- 'douanelaw10.SchemaFits', WHERE WHAT IT READS IS OF BULK AT MOST 1048576: true; the input reads as it did. -/
def schemaFitsUptoRow : OpenClaim := { program := "ytooaagmhgakhgaa", sum := "fe41433a24b9c0ff9ce4c012ce07fa05ba05753aaa9b34b79f37da3cb2e4709d", func := "douane/douanelaw10.SchemaFits", spec := "schemaFits", unfollowed := true, recurses := true, loops := true, apart := false, narrowed := true }
def SchemaFitsUptoSaid : Prop := schemaFitsUptoRow.holds Try.pinned (OpenSpec.upto schemaFitsSpec)

/-- 'douanelaw10.SchemaFirst', WHERE WHAT IT READS IS OF BULK AT MOST 1048576: true; the input reads as it did. -/
def schemaFirstUptoRow : OpenClaim := { program := "ytooaagmhgakhgaa", sum := "fe41433a24b9c0ff9ce4c012ce07fa05ba05753aaa9b34b79f37da3cb2e4709d", func := "douane/douanelaw10.SchemaFirst", spec := "schemaFirst", unfollowed := true, recurses := true, loops := true, apart := false, narrowed := true }
def SchemaFirstUptoSaid : Prop := schemaFirstUptoRow.holds Try.pinned (OpenSpec.upto schemaFirstSpec)

/-- 'douanelaw12.CastBack', WHERE WHAT IT READS IS OF BULK AT MOST 1048576: true; the input reads as it did. -/
def castBackUptoRow : OpenClaim := { program := "ytooaagmhgakhgaa", sum := "fe41433a24b9c0ff9ce4c012ce07fa05ba05753aaa9b34b79f37da3cb2e4709d", func := "douane/douanelaw12.CastBack", spec := "castBack", unfollowed := true, recurses := true, loops := true, apart := false, narrowed := true }
def CastBackUptoSaid : Prop := castBackUptoRow.holds Try.pinned (OpenSpec.upto castBackSpec)

/-- 'douanelaw12.CastDrops', WHERE WHAT IT READS IS OF BULK AT MOST 1048576: true; the input reads as it did. -/
def castDropsUptoRow : OpenClaim := { program := "ytooaagmhgakhgaa", sum := "fe41433a24b9c0ff9ce4c012ce07fa05ba05753aaa9b34b79f37da3cb2e4709d", func := "douane/douanelaw12.CastDrops", spec := "castDrops", unfollowed := true, recurses := true, loops := true, apart := false, narrowed := true }
def CastDropsUptoSaid : Prop := castDropsUptoRow.holds Try.pinned (OpenSpec.upto castDropsSpec)

/-- 'douanelaw12.CastNewest', WHERE WHAT IT READS IS OF BULK AT MOST 1048576: true; the input reads as it did. -/
def castNewestUptoRow : OpenClaim := { program := "ytooaagmhgakhgaa", sum := "fe41433a24b9c0ff9ce4c012ce07fa05ba05753aaa9b34b79f37da3cb2e4709d", func := "douane/douanelaw12.CastNewest", spec := "castNewest", unfollowed := true, recurses := true, loops := true, apart := false, narrowed := true }
def CastNewestUptoSaid : Prop := castNewestUptoRow.holds Try.pinned (OpenSpec.upto castNewestSpec)

/-- 'douanelaw12.CastFits', WHERE WHAT IT READS IS OF BULK AT MOST 1048576: true; the input reads as it did. -/
def castFitsUptoRow : OpenClaim := { program := "ytooaagmhgakhgaa", sum := "fe41433a24b9c0ff9ce4c012ce07fa05ba05753aaa9b34b79f37da3cb2e4709d", func := "douane/douanelaw12.CastFits", spec := "castFits", unfollowed := true, recurses := true, loops := true, apart := false, narrowed := true }
def CastFitsUptoSaid : Prop := castFitsUptoRow.holds Try.pinned (OpenSpec.upto castFitsSpec)

/-- 'douanelaw11.RecordNames', WHERE WHAT IT READS IS OF BULK AT MOST 1048576: true; the input reads as it did. -/
def recordNamesUptoRow : OpenClaim := { program := "ytooaagmhgakhgaa", sum := "fe41433a24b9c0ff9ce4c012ce07fa05ba05753aaa9b34b79f37da3cb2e4709d", func := "douane/douanelaw11.RecordNames", spec := "recordNames", unfollowed := true, recurses := true, loops := true, apart := false, narrowed := true }
def RecordNamesUptoSaid : Prop := recordNamesUptoRow.holds Try.pinned (OpenSpec.upto recordNamesSpec)

/-- 'douanelaw11.RecordApart', WHERE WHAT IT READS IS OF BULK AT MOST 1048576: true; the input reads as it did. -/
def recordApartUptoRow : OpenClaim := { program := "ytooaagmhgakhgaa", sum := "fe41433a24b9c0ff9ce4c012ce07fa05ba05753aaa9b34b79f37da3cb2e4709d", func := "douane/douanelaw11.RecordApart", spec := "recordApart", unfollowed := true, recurses := true, loops := true, apart := false, narrowed := true }
def RecordApartUptoSaid : Prop := recordApartUptoRow.holds Try.pinned (OpenSpec.upto recordApartSpec)

end Rows
end Go.Proofs.Ytooaagmhgakhgaa
