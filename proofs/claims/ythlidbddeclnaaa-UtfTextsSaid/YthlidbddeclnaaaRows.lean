/-
  No cell of these rows narrows 'for every input' (looked for: loops, veiled, ifaces, maps, wideKeys, modest, calm, conditions, laid).
  DERIVED. THE GIVEN ROWS OF THIS SEAT. 10 by the template 'for every input the law returns true; each argument reads behind the call as it read before'; 0 by the template 'total and deterministic' (their statements: YthlidbddeclnaaaTotals.lean).
  GIVEN WITH THE SEED: the statements are not yours to turn. If you find one false, say at which input.
  Laid BY PROGRAM, IN A SANDBOX (cutbox-rows.mjs): the forced cells as the released guide's own fill.sh prints them over the translation b69ebf6f5f1b8bdd… (all of the seat's roots in one cut). By AI agents, Wed Nov 11 2026. No macro, syntax, notation, axiom, sorry.
-/
import Derived.Test.YthlidbddeclnaaaChecked
import GoSem.Claim
import GoSem.ClaimJoined
import GoSem.ClaimMapViews
import Derived.JoinedTies
import Derived.KernelRfl
namespace Go.Proofs.Ythlidbddeclnaaa
/- THE CELL 'sum', in the pinned program and in every row, IS THE sha256 OF THE DUMP (.gsa) THAT YthlidbddeclnaaaProg.lean LOADS. Nothing in Lean hashes anything: it is a label: what it is worth is what the hold of that sum in a sandbox is worth. -/
noncomputable def Try.pinned : Pinned := { name := "ythlidbddeclnaaa", sum := "b69ebf6f5f1b8bdd097cefccf4af8522041e1db79bde5bdb1b012e0b935ee91a", checked := Try.checked }
namespace Rows
def none {H : Type} : Left H := { results := [], args := [] }

/-- 'douanelaw04.SumTables': WHATEVER THE INPUT: true; the input reads as it did. -/
def sumTablesSpec : ChangeSpec := { name := "sumTables", fn := fun _ => fun
  | [d1, d2, d3, d4] => { results := [.lit (.bool true)], args := [d1, d2, d3, d4] }
  | _ => none }
def sumTablesRow : OpenClaim := { program := "ythlidbddeclnaaa", sum := "b69ebf6f5f1b8bdd097cefccf4af8522041e1db79bde5bdb1b012e0b935ee91a", func := "douane/douanelaw04.SumTables", spec := "sumTables", unfollowed := true, recurses := true, apart := false }
def SumTablesSaid : Prop := sumTablesRow.holds Try.pinned (OpenSpec.ofChange sumTablesSpec)

/-- ITS FALSE NEIGHBOUR: 'it returns false'. Refute it at one input. -/
def sumTablesWrong : ChangeSpec := { name := "sumTables", fn := fun _ => fun
  | [d1, d2, d3, d4] => { results := [.lit (.bool false)], args := [d1, d2, d3, d4] }
  | _ => none }
def SumTablesWrongFalsely : Prop := sumTablesRow.holds Try.pinned (OpenSpec.ofChange sumTablesWrong)

/-- 'douanelaw04.SumPuts': WHATEVER THE INPUT: true; the input reads as it did. -/
def sumPutsSpec : ChangeSpec := { name := "sumPuts", fn := fun _ => fun
  | [d1, d2] => { results := [.lit (.bool true)], args := [d1, d2] }
  | _ => none }
def sumPutsRow : OpenClaim := { program := "ythlidbddeclnaaa", sum := "b69ebf6f5f1b8bdd097cefccf4af8522041e1db79bde5bdb1b012e0b935ee91a", func := "douane/douanelaw04.SumPuts", spec := "sumPuts", unfollowed := true, recurses := true, apart := false }
def SumPutsSaid : Prop := sumPutsRow.holds Try.pinned (OpenSpec.ofChange sumPutsSpec)

/-- ITS FALSE NEIGHBOUR: 'it returns false'. Refute it at one input. -/
def sumPutsWrong : ChangeSpec := { name := "sumPuts", fn := fun _ => fun
  | [d1, d2] => { results := [.lit (.bool false)], args := [d1, d2] }
  | _ => none }
def SumPutsWrongFalsely : Prop := sumPutsRow.holds Try.pinned (OpenSpec.ofChange sumPutsWrong)

/-- 'douanelaw04.SumParts': WHATEVER THE INPUT: true; the input reads as it did. -/
def sumPartsSpec : ChangeSpec := { name := "sumParts", fn := fun _ => fun
  | [d1, d2, d3] => { results := [.lit (.bool true)], args := [d1, d2, d3] }
  | _ => none }
def sumPartsRow : OpenClaim := { program := "ythlidbddeclnaaa", sum := "b69ebf6f5f1b8bdd097cefccf4af8522041e1db79bde5bdb1b012e0b935ee91a", func := "douane/douanelaw04.SumParts", spec := "sumParts", unfollowed := true, recurses := true, apart := false }
def SumPartsSaid : Prop := sumPartsRow.holds Try.pinned (OpenSpec.ofChange sumPartsSpec)

/-- ITS FALSE NEIGHBOUR: 'it returns false'. Refute it at one input. -/
def sumPartsWrong : ChangeSpec := { name := "sumParts", fn := fun _ => fun
  | [d1, d2, d3] => { results := [.lit (.bool false)], args := [d1, d2, d3] }
  | _ => none }
def SumPartsWrongFalsely : Prop := sumPartsRow.holds Try.pinned (OpenSpec.ofChange sumPartsWrong)

/-- 'douanelaw04.SumBack': WHATEVER THE INPUT: true; the input reads as it did. -/
def sumBackSpec : ChangeSpec := { name := "sumBack", fn := fun _ => fun
  | [d1, d2, d3, d4] => { results := [.lit (.bool true)], args := [d1, d2, d3, d4] }
  | _ => none }
def sumBackRow : OpenClaim := { program := "ythlidbddeclnaaa", sum := "b69ebf6f5f1b8bdd097cefccf4af8522041e1db79bde5bdb1b012e0b935ee91a", func := "douane/douanelaw04.SumBack", spec := "sumBack", unfollowed := true, recurses := true, apart := false }
def SumBackSaid : Prop := sumBackRow.holds Try.pinned (OpenSpec.ofChange sumBackSpec)

/-- ITS FALSE NEIGHBOUR: 'it returns false'. Refute it at one input. -/
def sumBackWrong : ChangeSpec := { name := "sumBack", fn := fun _ => fun
  | [d1, d2, d3, d4] => { results := [.lit (.bool false)], args := [d1, d2, d3, d4] }
  | _ => none }
def SumBackWrongFalsely : Prop := sumBackRow.holds Try.pinned (OpenSpec.ofChange sumBackWrong)

/-- 'douanelaw04.SumLinear': WHATEVER THE INPUT: true; the input reads as it did. -/
def sumLinearSpec : ChangeSpec := { name := "sumLinear", fn := fun _ => fun
  | [d1, d2, d3] => { results := [.lit (.bool true)], args := [d1, d2, d3] }
  | _ => none }
def sumLinearRow : OpenClaim := { program := "ythlidbddeclnaaa", sum := "b69ebf6f5f1b8bdd097cefccf4af8522041e1db79bde5bdb1b012e0b935ee91a", func := "douane/douanelaw04.SumLinear", spec := "sumLinear", unfollowed := true, recurses := true, apart := false }
def SumLinearSaid : Prop := sumLinearRow.holds Try.pinned (OpenSpec.ofChange sumLinearSpec)

/-- ITS FALSE NEIGHBOUR: 'it returns false'. Refute it at one input. -/
def sumLinearWrong : ChangeSpec := { name := "sumLinear", fn := fun _ => fun
  | [d1, d2, d3] => { results := [.lit (.bool false)], args := [d1, d2, d3] }
  | _ => none }
def SumLinearWrongFalsely : Prop := sumLinearRow.holds Try.pinned (OpenSpec.ofChange sumLinearWrong)

/-- 'douanelaw01.UtfCodes': WHATEVER THE INPUT: true; the input reads as it did. -/
def utfCodesSpec : ChangeSpec := { name := "utfCodes", fn := fun _ => fun
  | [d1, d2, d3] => { results := [.lit (.bool true)], args := [d1, d2, d3] }
  | _ => none }
def utfCodesRow : OpenClaim := { program := "ythlidbddeclnaaa", sum := "b69ebf6f5f1b8bdd097cefccf4af8522041e1db79bde5bdb1b012e0b935ee91a", func := "douane/douanelaw01.UtfCodes", spec := "utfCodes", unfollowed := true, recurses := true, apart := false }
def UtfCodesSaid : Prop := utfCodesRow.holds Try.pinned (OpenSpec.ofChange utfCodesSpec)

/-- ITS FALSE NEIGHBOUR: 'it returns false'. Refute it at one input. -/
def utfCodesWrong : ChangeSpec := { name := "utfCodes", fn := fun _ => fun
  | [d1, d2, d3] => { results := [.lit (.bool false)], args := [d1, d2, d3] }
  | _ => none }
def UtfCodesWrongFalsely : Prop := utfCodesRow.holds Try.pinned (OpenSpec.ofChange utfCodesWrong)

/-- 'douanelaw01.UtfTexts': WHATEVER THE INPUT: true; the input reads as it did. -/
def utfTextsSpec : ChangeSpec := { name := "utfTexts", fn := fun _ => fun
  | [d1, d2] => { results := [.lit (.bool true)], args := [d1, d2] }
  | _ => none }
def utfTextsRow : OpenClaim := { program := "ythlidbddeclnaaa", sum := "b69ebf6f5f1b8bdd097cefccf4af8522041e1db79bde5bdb1b012e0b935ee91a", func := "douane/douanelaw01.UtfTexts", spec := "utfTexts", unfollowed := true, recurses := true, apart := false }
def UtfTextsSaid : Prop := utfTextsRow.holds Try.pinned (OpenSpec.ofChange utfTextsSpec)

/-- ITS FALSE NEIGHBOUR: 'it returns false'. Refute it at one input. -/
def utfTextsWrong : ChangeSpec := { name := "utfTexts", fn := fun _ => fun
  | [d1, d2] => { results := [.lit (.bool false)], args := [d1, d2] }
  | _ => none }
def UtfTextsWrongFalsely : Prop := utfTextsRow.holds Try.pinned (OpenSpec.ofChange utfTextsWrong)

/-- 'douanelaw01.UtfBack': WHATEVER THE INPUT: true; the input reads as it did. -/
def utfBackSpec : ChangeSpec := { name := "utfBack", fn := fun _ => fun
  | [d1, d2, d3] => { results := [.lit (.bool true)], args := [d1, d2, d3] }
  | _ => none }
def utfBackRow : OpenClaim := { program := "ythlidbddeclnaaa", sum := "b69ebf6f5f1b8bdd097cefccf4af8522041e1db79bde5bdb1b012e0b935ee91a", func := "douane/douanelaw01.UtfBack", spec := "utfBack", unfollowed := true, recurses := true, apart := false }
def UtfBackSaid : Prop := utfBackRow.holds Try.pinned (OpenSpec.ofChange utfBackSpec)

/-- ITS FALSE NEIGHBOUR: 'it returns false'. Refute it at one input. -/
def utfBackWrong : ChangeSpec := { name := "utfBack", fn := fun _ => fun
  | [d1, d2, d3] => { results := [.lit (.bool false)], args := [d1, d2, d3] }
  | _ => none }
def UtfBackWrongFalsely : Prop := utfBackRow.holds Try.pinned (OpenSpec.ofChange utfBackWrong)

/-- 'douanelaw01.UtfJoins': WHATEVER THE INPUT: true; the input reads as it did. -/
def utfJoinsSpec : ChangeSpec := { name := "utfJoins", fn := fun _ => fun
  | [d1, d2] => { results := [.lit (.bool true)], args := [d1, d2] }
  | _ => none }
def utfJoinsRow : OpenClaim := { program := "ythlidbddeclnaaa", sum := "b69ebf6f5f1b8bdd097cefccf4af8522041e1db79bde5bdb1b012e0b935ee91a", func := "douane/douanelaw01.UtfJoins", spec := "utfJoins", unfollowed := true, recurses := true, apart := false }
def UtfJoinsSaid : Prop := utfJoinsRow.holds Try.pinned (OpenSpec.ofChange utfJoinsSpec)

/-- ITS FALSE NEIGHBOUR: 'it returns false'. Refute it at one input. -/
def utfJoinsWrong : ChangeSpec := { name := "utfJoins", fn := fun _ => fun
  | [d1, d2] => { results := [.lit (.bool false)], args := [d1, d2] }
  | _ => none }
def UtfJoinsWrongFalsely : Prop := utfJoinsRow.holds Try.pinned (OpenSpec.ofChange utfJoinsWrong)

/-- 'douanelaw01.UtfOnly': WHATEVER THE INPUT: true; the input reads as it did. -/
def utfOnlySpec : ChangeSpec := { name := "utfOnly", fn := fun _ => fun
  | [d1, d2] => { results := [.lit (.bool true)], args := [d1, d2] }
  | _ => none }
def utfOnlyRow : OpenClaim := { program := "ythlidbddeclnaaa", sum := "b69ebf6f5f1b8bdd097cefccf4af8522041e1db79bde5bdb1b012e0b935ee91a", func := "douane/douanelaw01.UtfOnly", spec := "utfOnly", unfollowed := true, recurses := true, apart := false }
def UtfOnlySaid : Prop := utfOnlyRow.holds Try.pinned (OpenSpec.ofChange utfOnlySpec)

/-- ITS FALSE NEIGHBOUR: 'it returns false'. Refute it at one input. -/
def utfOnlyWrong : ChangeSpec := { name := "utfOnly", fn := fun _ => fun
  | [d1, d2] => { results := [.lit (.bool false)], args := [d1, d2] }
  | _ => none }
def UtfOnlyWrongFalsely : Prop := utfOnlyRow.holds Try.pinned (OpenSpec.ofChange utfOnlyWrong)

/- THE SECOND FORM. 'bulk': how many values and letters a reading holds, each counted each time it is reached (what is shared counts as often as it is met; a slice's spare places count too). A statement '..UptoSaid' is the law's where the arguments, and the package variables that the reading takes, are together of bulk at most 1048576: NARROWER than '..Said'. Prove '..Said' where nothing that the law and all that it calls make is longer than what came in: it says more and counts as full. Else prove '..UptoSaid'. A law counts once. -/
mutual
def uptoBulk {H : Type} : DataW H → Nat
  | .lit (.string bytes) => bytes.length + 1
  | .lit _ => 1
  | .nil => 1
  | .ptr d => uptoBulk d + 1
  | .slice elems spare => uptoBulkAll elems + uptoBulkAll spare + 1
  | .agg parts => uptoBulkAll parts + 1
  | .iface _ d => uptoBulk d + 1
  | .map entries => uptoBulkEntries entries + 1
  | .held _ => 1
def uptoBulkAll {H : Type} : List (DataW H) → Nat
  | [] => 0
  | d :: r => uptoBulk d + uptoBulkAll r
def uptoBulkEntries {H : Type} : List (Lit × DataW H) → Nat
  | [] => 0
  | x :: r => uptoBulkEntry x + uptoBulkEntries r
def uptoBulkEntry {H : Type} : Lit × DataW H → Nat
  | (.string bytes, d) => bytes.length + uptoBulk d + 1
  | (_, d) => uptoBulk d + 1
 end
def uptoSmall : (H : Type) → List (DataW H) → Bool := fun _ ds => decide (uptoBulkAll ds ≤ 1048576)
def OpenSpec.upto (s : _root_.Go.ChangeSpec) : _root_.Go.OpenSpec := { _root_.Go.OpenSpec.ofChange s with cond := some uptoSmall }

/-- 'douanelaw04.SumTables', WHERE WHAT IT READS IS OF BULK AT MOST 1048576: true; the input reads as it did. -/
def sumTablesUptoRow : OpenClaim := { program := "ythlidbddeclnaaa", sum := "b69ebf6f5f1b8bdd097cefccf4af8522041e1db79bde5bdb1b012e0b935ee91a", func := "douane/douanelaw04.SumTables", spec := "sumTables", unfollowed := true, recurses := true, apart := false, narrowed := true }
def SumTablesUptoSaid : Prop := sumTablesUptoRow.holds Try.pinned (OpenSpec.upto sumTablesSpec)

/-- 'douanelaw04.SumPuts', WHERE WHAT IT READS IS OF BULK AT MOST 1048576: true; the input reads as it did. -/
def sumPutsUptoRow : OpenClaim := { program := "ythlidbddeclnaaa", sum := "b69ebf6f5f1b8bdd097cefccf4af8522041e1db79bde5bdb1b012e0b935ee91a", func := "douane/douanelaw04.SumPuts", spec := "sumPuts", unfollowed := true, recurses := true, apart := false, narrowed := true }
def SumPutsUptoSaid : Prop := sumPutsUptoRow.holds Try.pinned (OpenSpec.upto sumPutsSpec)

/-- 'douanelaw04.SumParts', WHERE WHAT IT READS IS OF BULK AT MOST 1048576: true; the input reads as it did. -/
def sumPartsUptoRow : OpenClaim := { program := "ythlidbddeclnaaa", sum := "b69ebf6f5f1b8bdd097cefccf4af8522041e1db79bde5bdb1b012e0b935ee91a", func := "douane/douanelaw04.SumParts", spec := "sumParts", unfollowed := true, recurses := true, apart := false, narrowed := true }
def SumPartsUptoSaid : Prop := sumPartsUptoRow.holds Try.pinned (OpenSpec.upto sumPartsSpec)

/-- 'douanelaw04.SumBack', WHERE WHAT IT READS IS OF BULK AT MOST 1048576: true; the input reads as it did. -/
def sumBackUptoRow : OpenClaim := { program := "ythlidbddeclnaaa", sum := "b69ebf6f5f1b8bdd097cefccf4af8522041e1db79bde5bdb1b012e0b935ee91a", func := "douane/douanelaw04.SumBack", spec := "sumBack", unfollowed := true, recurses := true, apart := false, narrowed := true }
def SumBackUptoSaid : Prop := sumBackUptoRow.holds Try.pinned (OpenSpec.upto sumBackSpec)

/-- 'douanelaw04.SumLinear', WHERE WHAT IT READS IS OF BULK AT MOST 1048576: true; the input reads as it did. -/
def sumLinearUptoRow : OpenClaim := { program := "ythlidbddeclnaaa", sum := "b69ebf6f5f1b8bdd097cefccf4af8522041e1db79bde5bdb1b012e0b935ee91a", func := "douane/douanelaw04.SumLinear", spec := "sumLinear", unfollowed := true, recurses := true, apart := false, narrowed := true }
def SumLinearUptoSaid : Prop := sumLinearUptoRow.holds Try.pinned (OpenSpec.upto sumLinearSpec)

/-- 'douanelaw01.UtfCodes', WHERE WHAT IT READS IS OF BULK AT MOST 1048576: true; the input reads as it did. -/
def utfCodesUptoRow : OpenClaim := { program := "ythlidbddeclnaaa", sum := "b69ebf6f5f1b8bdd097cefccf4af8522041e1db79bde5bdb1b012e0b935ee91a", func := "douane/douanelaw01.UtfCodes", spec := "utfCodes", unfollowed := true, recurses := true, apart := false, narrowed := true }
def UtfCodesUptoSaid : Prop := utfCodesUptoRow.holds Try.pinned (OpenSpec.upto utfCodesSpec)

/-- 'douanelaw01.UtfTexts', WHERE WHAT IT READS IS OF BULK AT MOST 1048576: true; the input reads as it did. -/
def utfTextsUptoRow : OpenClaim := { program := "ythlidbddeclnaaa", sum := "b69ebf6f5f1b8bdd097cefccf4af8522041e1db79bde5bdb1b012e0b935ee91a", func := "douane/douanelaw01.UtfTexts", spec := "utfTexts", unfollowed := true, recurses := true, apart := false, narrowed := true }
def UtfTextsUptoSaid : Prop := utfTextsUptoRow.holds Try.pinned (OpenSpec.upto utfTextsSpec)

/-- 'douanelaw01.UtfBack', WHERE WHAT IT READS IS OF BULK AT MOST 1048576: true; the input reads as it did. -/
def utfBackUptoRow : OpenClaim := { program := "ythlidbddeclnaaa", sum := "b69ebf6f5f1b8bdd097cefccf4af8522041e1db79bde5bdb1b012e0b935ee91a", func := "douane/douanelaw01.UtfBack", spec := "utfBack", unfollowed := true, recurses := true, apart := false, narrowed := true }
def UtfBackUptoSaid : Prop := utfBackUptoRow.holds Try.pinned (OpenSpec.upto utfBackSpec)

/-- 'douanelaw01.UtfJoins', WHERE WHAT IT READS IS OF BULK AT MOST 1048576: true; the input reads as it did. -/
def utfJoinsUptoRow : OpenClaim := { program := "ythlidbddeclnaaa", sum := "b69ebf6f5f1b8bdd097cefccf4af8522041e1db79bde5bdb1b012e0b935ee91a", func := "douane/douanelaw01.UtfJoins", spec := "utfJoins", unfollowed := true, recurses := true, apart := false, narrowed := true }
def UtfJoinsUptoSaid : Prop := utfJoinsUptoRow.holds Try.pinned (OpenSpec.upto utfJoinsSpec)

/-- 'douanelaw01.UtfOnly', WHERE WHAT IT READS IS OF BULK AT MOST 1048576: true; the input reads as it did. -/
def utfOnlyUptoRow : OpenClaim := { program := "ythlidbddeclnaaa", sum := "b69ebf6f5f1b8bdd097cefccf4af8522041e1db79bde5bdb1b012e0b935ee91a", func := "douane/douanelaw01.UtfOnly", spec := "utfOnly", unfollowed := true, recurses := true, apart := false, narrowed := true }
def UtfOnlyUptoSaid : Prop := utfOnlyUptoRow.holds Try.pinned (OpenSpec.upto utfOnlySpec)

end Rows
end Go.Proofs.Ythlidbddeclnaaa
