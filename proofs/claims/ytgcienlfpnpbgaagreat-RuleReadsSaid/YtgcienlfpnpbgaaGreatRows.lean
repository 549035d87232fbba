/-
  NARROWER THAN 'FOR EVERY INPUT', by the rows' own cells (each row's printed sentence says how): RegistryPuts: loops · RegistryBack: loops · RegistryNames: loops · RegistryFewer: loops · RuleRight: loops · RuleBytes: loops · RuleBound: loops · RuleBare: loops · RuleBack: loops · RuleReads: loops.
  DERIVED. THE GIVEN ROWS OF THIS SEAT. 11 by the template 'for every input the law returns true; each argument reads behind the call as it read before'; 0 by the template 'total and deterministic' (their statements: YtgcienlfpnpbgaaGreatTotals.lean).
  GIVEN WITH THE SEED: the statements are not yours to turn. If you find one false, say at which input.
  Laid BY PROGRAM, IN A SANDBOX (cutbox-rows.mjs): the forced cells as the released guide's own fill.sh prints them over the translation 3cd170de53885c44… (all of the seat's roots in one cut). By AI agents, Wed Nov 11 2026. No macro, syntax, notation, axiom, sorry.
-/
import Derived.Test.YtgcienlfpnpbgaaGreatChecked
import GoSem.Claim
import GoSem.ClaimJoined
import GoSem.ClaimMapViews
import Derived.JoinedTies
import Derived.KernelRfl
namespace Go.Proofs.YtgcienlfpnpbgaaGreat
/- THE CELL 'sum', in the pinned program and in every row, IS THE sha256 OF THE DUMP (.gsa) THAT YtgcienlfpnpbgaaGreatProg.lean LOADS. Nothing in Lean hashes anything: it is a label: what it is worth is what the hold of that sum in a sandbox is worth. -/
noncomputable def Tryz.pinned : Pinned := { name := "ytgcienlfpnpbgaagreat", sum := "3cd170de53885c443f0141c08000abf0f44e4d884f255a8c3fa0b25a79ef7123", checked := Tryz.checked }
namespace Rows
def none {H : Type} : Left H := { results := [], args := [] }

/-- 'douanelaw13.RegistryPuts': WHATEVER THE INPUT: true; the input reads as it did. -/
def registryPutsSpec : ChangeSpec := { name := "registryPuts", fn := fun _ => fun
  | [d1, d2, d3] => { results := [.lit (.bool true)], args := [d1, d2, d3] }
  | _ => none }
def registryPutsRow : OpenClaim := { program := "ytgcienlfpnpbgaagreat", sum := "3cd170de53885c443f0141c08000abf0f44e4d884f255a8c3fa0b25a79ef7123", func := "douane/douanelaw13.RegistryPuts", spec := "registryPuts", unfollowed := true, recurses := true, loops := true, apart := false }
def RegistryPutsSaid : Prop := registryPutsRow.holds Tryz.pinned (OpenSpec.ofChange registryPutsSpec)

/-- ITS FALSE NEIGHBOUR: 'it returns false'. Refute it at one input. -/
def registryPutsWrong : ChangeSpec := { name := "registryPuts", fn := fun _ => fun
  | [d1, d2, d3] => { results := [.lit (.bool false)], args := [d1, d2, d3] }
  | _ => none }
def RegistryPutsWrongFalsely : Prop := registryPutsRow.holds Tryz.pinned (OpenSpec.ofChange registryPutsWrong)

/-- 'douanelaw13.RegistryBack': WHATEVER THE INPUT: true; the input reads as it did. -/
def registryBackSpec : ChangeSpec := { name := "registryBack", fn := fun _ => fun
  | [d1, d2] => { results := [.lit (.bool true)], args := [d1, d2] }
  | _ => none }
def registryBackRow : OpenClaim := { program := "ytgcienlfpnpbgaagreat", sum := "3cd170de53885c443f0141c08000abf0f44e4d884f255a8c3fa0b25a79ef7123", func := "douane/douanelaw13.RegistryBack", spec := "registryBack", unfollowed := true, recurses := true, loops := true, apart := false }
def RegistryBackSaid : Prop := registryBackRow.holds Tryz.pinned (OpenSpec.ofChange registryBackSpec)

/-- ITS FALSE NEIGHBOUR: 'it returns false'. Refute it at one input. -/
def registryBackWrong : ChangeSpec := { name := "registryBack", fn := fun _ => fun
  | [d1, d2] => { results := [.lit (.bool false)], args := [d1, d2] }
  | _ => none }
def RegistryBackWrongFalsely : Prop := registryBackRow.holds Tryz.pinned (OpenSpec.ofChange registryBackWrong)

/-- 'douanelaw13.RegistryNames': WHATEVER THE INPUT: true; the input reads as it did. -/
def registryNamesSpec : ChangeSpec := { name := "registryNames", fn := fun _ => fun
  | [d1, d2] => { results := [.lit (.bool true)], args := [d1, d2] }
  | _ => none }
def registryNamesRow : OpenClaim := { program := "ytgcienlfpnpbgaagreat", sum := "3cd170de53885c443f0141c08000abf0f44e4d884f255a8c3fa0b25a79ef7123", func := "douane/douanelaw13.RegistryNames", spec := "registryNames", unfollowed := true, recurses := true, loops := true, apart := false }
def RegistryNamesSaid : Prop := registryNamesRow.holds Tryz.pinned (OpenSpec.ofChange registryNamesSpec)

/-- ITS FALSE NEIGHBOUR: 'it returns false'. Refute it at one input. -/
def registryNamesWrong : ChangeSpec := { name := "registryNames", fn := fun _ => fun
  | [d1, d2] => { results := [.lit (.bool false)], args := [d1, d2] }
  | _ => none }
def RegistryNamesWrongFalsely : Prop := registryNamesRow.holds Tryz.pinned (OpenSpec.ofChange registryNamesWrong)

/-- 'douanelaw13.RegistryFewer': WHATEVER THE INPUT: true; the input reads as it did. -/
def registryFewerSpec : ChangeSpec := { name := "registryFewer", fn := fun _ => fun
  | [d1, d2] => { results := [.lit (.bool true)], args := [d1, d2] }
  | _ => none }
def registryFewerRow : OpenClaim := { program := "ytgcienlfpnpbgaagreat", sum := "3cd170de53885c443f0141c08000abf0f44e4d884f255a8c3fa0b25a79ef7123", func := "douane/douanelaw13.RegistryFewer", spec := "registryFewer", unfollowed := true, recurses := true, loops := true, apart := false }
def RegistryFewerSaid : Prop := registryFewerRow.holds Tryz.pinned (OpenSpec.ofChange registryFewerSpec)

/-- ITS FALSE NEIGHBOUR: 'it returns false'. Refute it at one input. -/
def registryFewerWrong : ChangeSpec := { name := "registryFewer", fn := fun _ => fun
  | [d1, d2] => { results := [.lit (.bool false)], args := [d1, d2] }
  | _ => none }
def RegistryFewerWrongFalsely : Prop := registryFewerRow.holds Tryz.pinned (OpenSpec.ofChange registryFewerWrong)

/-- 'douanelaw13.RegistryGets': WHATEVER THE INPUT: true; the input reads as it did. -/
def registryGetsSpec : ChangeSpec := { name := "registryGets", fn := fun _ => fun
  | [d] => { results := [.lit (.bool true)], args := [d] }
  | _ => none }
def registryGetsRow : OpenClaim := { program := "ytgcienlfpnpbgaagreat", sum := "3cd170de53885c443f0141c08000abf0f44e4d884f255a8c3fa0b25a79ef7123", func := "douane/douanelaw13.RegistryGets", spec := "registryGets", unfollowed := true, recurses := true, apart := false }
def RegistryGetsSaid : Prop := registryGetsRow.holds Tryz.pinned (OpenSpec.ofChange registryGetsSpec)

/-- ITS FALSE NEIGHBOUR: 'it returns false'. Refute it at one input. -/
def registryGetsWrong : ChangeSpec := { name := "registryGets", fn := fun _ => fun
  | [d] => { results := [.lit (.bool false)], args := [d] }
  | _ => none }
def RegistryGetsWrongFalsely : Prop := registryGetsRow.holds Tryz.pinned (OpenSpec.ofChange registryGetsWrong)

/-- 'douanelaw17.RuleRight': WHATEVER THE INPUT: true; the input reads as it did. -/
def ruleRightSpec : ChangeSpec := { name := "ruleRight", fn := fun _ => fun
  | [d1, d2] => { results := [.lit (.bool true)], args := [d1, d2] }
  | _ => none }
def ruleRightRow : OpenClaim := { program := "ytgcienlfpnpbgaagreat", sum := "3cd170de53885c443f0141c08000abf0f44e4d884f255a8c3fa0b25a79ef7123", func := "douane/douanelaw17.RuleRight", spec := "ruleRight", unfollowed := true, recurses := true, loops := true, apart := false }
def RuleRightSaid : Prop := ruleRightRow.holds Tryz.pinned (OpenSpec.ofChange ruleRightSpec)

/-- ITS FALSE NEIGHBOUR: 'it returns false'. Refute it at one input. -/
def ruleRightWrong : ChangeSpec := { name := "ruleRight", fn := fun _ => fun
  | [d1, d2] => { results := [.lit (.bool false)], args := [d1, d2] }
  | _ => none }
def RuleRightWrongFalsely : Prop := ruleRightRow.holds Tryz.pinned (OpenSpec.ofChange ruleRightWrong)

/-- 'douanelaw17.RuleBytes': WHATEVER THE INPUT: true; the input reads as it did. -/
def ruleBytesSpec : ChangeSpec := { name := "ruleBytes", fn := fun _ => fun
  | [d1, d2, d3] => { results := [.lit (.bool true)], args := [d1, d2, d3] }
  | _ => none }
def ruleBytesRow : OpenClaim := { program := "ytgcienlfpnpbgaagreat", sum := "3cd170de53885c443f0141c08000abf0f44e4d884f255a8c3fa0b25a79ef7123", func := "douane/douanelaw17.RuleBytes", spec := "ruleBytes", unfollowed := true, recurses := true, loops := true, apart := false }
def RuleBytesSaid : Prop := ruleBytesRow.holds Tryz.pinned (OpenSpec.ofChange ruleBytesSpec)

/-- ITS FALSE NEIGHBOUR: 'it returns false'. Refute it at one input. -/
def ruleBytesWrong : ChangeSpec := { name := "ruleBytes", fn := fun _ => fun
  | [d1, d2, d3] => { results := [.lit (.bool false)], args := [d1, d2, d3] }
  | _ => none }
def RuleBytesWrongFalsely : Prop := ruleBytesRow.holds Tryz.pinned (OpenSpec.ofChange ruleBytesWrong)

/-- 'douanelaw17.RuleBound': WHATEVER THE INPUT: true; the input reads as it did. -/
def ruleBoundSpec : ChangeSpec := { name := "ruleBound", fn := fun _ => fun
  | [d1, d2] => { results := [.lit (.bool true)], args := [d1, d2] }
  | _ => none }
def ruleBoundRow : OpenClaim := { program := "ytgcienlfpnpbgaagreat", sum := "3cd170de53885c443f0141c08000abf0f44e4d884f255a8c3fa0b25a79ef7123", func := "douane/douanelaw17.RuleBound", spec := "ruleBound", unfollowed := true, recurses := true, loops := true, apart := false }
def RuleBoundSaid : Prop := ruleBoundRow.holds Tryz.pinned (OpenSpec.ofChange ruleBoundSpec)

/-- ITS FALSE NEIGHBOUR: 'it returns false'. Refute it at one input. -/
def ruleBoundWrong : ChangeSpec := { name := "ruleBound", fn := fun _ => fun
  | [d1, d2] => { results := [.lit (.bool false)], args := [d1, d2] }
  | _ => none }
def RuleBoundWrongFalsely : Prop := ruleBoundRow.holds Tryz.pinned (OpenSpec.ofChange ruleBoundWrong)

/-- 'douanelaw17.RuleBare': WHATEVER THE INPUT: true; the input reads as it did. -/
def ruleBareSpec : ChangeSpec := { name := "ruleBare", fn := fun _ => fun
  | [d1, d2] => { results := [.lit (.bool true)], args := [d1, d2] }
  | _ => none }
def ruleBareRow : OpenClaim := { program := "ytgcienlfpnpbgaagreat", sum := "3cd170de53885c443f0141c08000abf0f44e4d884f255a8c3fa0b25a79ef7123", func := "douane/douanelaw17.RuleBare", spec := "ruleBare", unfollowed := true, recurses := true, loops := true, apart := false }
def RuleBareSaid : Prop := ruleBareRow.holds Tryz.pinned (OpenSpec.ofChange ruleBareSpec)

/-- ITS FALSE NEIGHBOUR: 'it returns false'. Refute it at one input. -/
def ruleBareWrong : ChangeSpec := { name := "ruleBare", fn := fun _ => fun
  | [d1, d2] => { results := [.lit (.bool false)], args := [d1, d2] }
  | _ => none }
def RuleBareWrongFalsely : Prop := ruleBareRow.holds Tryz.pinned (OpenSpec.ofChange ruleBareWrong)

/-- 'douanelaw17.RuleBack': WHATEVER THE INPUT: true; the input reads as it did. -/
def ruleBackSpec : ChangeSpec := { name := "ruleBack", fn := fun _ => fun
  | [d1, d2] => { results := [.lit (.bool true)], args := [d1, d2] }
  | _ => none }
def ruleBackRow : OpenClaim := { program := "ytgcienlfpnpbgaagreat", sum := "3cd170de53885c443f0141c08000abf0f44e4d884f255a8c3fa0b25a79ef7123", func := "douane/douanelaw17.RuleBack", spec := "ruleBack", unfollowed := true, recurses := true, loops := true, apart := false }
def RuleBackSaid : Prop := ruleBackRow.holds Tryz.pinned (OpenSpec.ofChange ruleBackSpec)

/-- ITS FALSE NEIGHBOUR: 'it returns false'. Refute it at one input. -/
def ruleBackWrong : ChangeSpec := { name := "ruleBack", fn := fun _ => fun
  | [d1, d2] => { results := [.lit (.bool false)], args := [d1, d2] }
  | _ => none }
def RuleBackWrongFalsely : Prop := ruleBackRow.holds Tryz.pinned (OpenSpec.ofChange ruleBackWrong)

/-- 'douanelaw17.RuleReads': WHATEVER THE INPUT: true; the input reads as it did. -/
def ruleReadsSpec : ChangeSpec := { name := "ruleReads", fn := fun _ => fun
  | [d1, d2] => { results := [.lit (.bool true)], args := [d1, d2] }
  | _ => none }
def ruleReadsRow : OpenClaim := { program := "ytgcienlfpnpbgaagreat", sum := "3cd170de53885c443f0141c08000abf0f44e4d884f255a8c3fa0b25a79ef7123", func := "douane/douanelaw17.RuleReads", spec := "ruleReads", unfollowed := true, recurses := true, loops := true, apart := false }
def RuleReadsSaid : Prop := ruleReadsRow.holds Tryz.pinned (OpenSpec.ofChange ruleReadsSpec)

/-- ITS FALSE NEIGHBOUR: 'it returns false'. Refute it at one input. -/
def ruleReadsWrong : ChangeSpec := { name := "ruleReads", fn := fun _ => fun
  | [d1, d2] => { results := [.lit (.bool false)], args := [d1, d2] }
  | _ => none }
def RuleReadsWrongFalsely : Prop := ruleReadsRow.holds Tryz.pinned (OpenSpec.ofChange ruleReadsWrong)

/- THE SECOND FORM. 'bulk': how many values and letters a reading holds, each counted each time it is reached (what is shared counts as often as it is met; a slice's spare places count too). A statement '..UptoSaid' is the law's where the arguments, and the package variables that the reading takes, are together of bulk at most 1048576: NARROWER than '..Said'. Prove '..Said' where nothing that the law and all that it calls make is longer than what came in: it says more and counts as full. Else prove '..UptoSaid'. A law counts once. -/
mutual
def uptoBulk {H : Type} : DataW H → Nat
  | .lit (.string bytes) => bytes.length + 1
  | .lit _ => 1
  | .nil => 1
  | .ptr d => uptoBulk d + 1
  | .slice elems spare => uptoBulkAll elems + uptoBulkAll spare + 1
  | .agg parts => uptoBulkAll parts + 1
  | .iface _ d => uptoBulk d + 1
  | .map entries => uptoBulkEntries entries + 1
  | .held _ => 1
def uptoBulkAll {H : Type} : List (DataW H) → Nat
  | [] => 0
  | d :: r => uptoBulk d + uptoBulkAll r
def uptoBulkEntries {H : Type} : List (Lit × DataW H) → Nat
  | [] => 0
  | x :: r => uptoBulkEntry x + uptoBulkEntries r
def uptoBulkEntry {H : Type} : Lit × DataW H → Nat
  | (.string bytes, d) => bytes.length + uptoBulk d + 1
  | (_, d) => uptoBulk d + 1
 end
def uptoSmall : (H : Type) → List (DataW H) → Bool := fun _ ds => decide (uptoBulkAll ds ≤ 1048576)
def OpenSpec.upto (s : _root_.Go.ChangeSpec) : _root_.Go.OpenSpec := { _root_.Go.OpenSpec.ofChange s with cond := some uptoSmall }

/-- 'douanelaw13.RegistryPuts', WHERE WHAT IT READS IS OF BULK AT MOST 1048576: true; the input reads as it did. -/
def registryPutsUptoRow : OpenClaim := { program := "ytgcienlfpnpbgaagreat", sum := "3cd170de53885c443f0141c08000abf0f44e4d884f255a8c3fa0b25a79ef7123", func := "douane/douanelaw13.RegistryPuts", spec := "registryPuts", unfollowed := true, recurses := true, loops := true, apart := false, narrowed := true }
def RegistryPutsUptoSaid : Prop := registryPutsUptoRow.holds Tryz.pinned (OpenSpec.upto registryPutsSpec)

/-- 'douanelaw13.RegistryBack', WHERE WHAT IT READS IS OF BULK AT MOST 1048576: true; the input reads as it did. -/
def registryBackUptoRow : OpenClaim := { program := "ytgcienlfpnpbgaagreat", sum := "3cd170de53885c443f0141c08000abf0f44e4d884f255a8c3fa0b25a79ef7123", func := "douane/douanelaw13.RegistryBack", spec := "registryBack", unfollowed := true, recurses := true, loops := true, apart := false, narrowed := true }
def RegistryBackUptoSaid : Prop := registryBackUptoRow.holds Tryz.pinned (OpenSpec.upto registryBackSpec)

/-- 'douanelaw13.RegistryNames', WHERE WHAT IT READS IS OF BULK AT MOST 1048576: true; the input reads as it did. -/
def registryNamesUptoRow : OpenClaim := { program := "ytgcienlfpnpbgaagreat", sum := "3cd170de53885c443f0141c08000abf0f44e4d884f255a8c3fa0b25a79ef7123", func := "douane/douanelaw13.RegistryNames", spec := "registryNames", unfollowed := true, recurses := true, loops := true, apart := false, narrowed := true }
def RegistryNamesUptoSaid : Prop := registryNamesUptoRow.holds Tryz.pinned (OpenSpec.upto registryNamesSpec)

/-- 'douanelaw13.RegistryFewer', WHERE WHAT IT READS IS OF BULK AT MOST 1048576: true; the input reads as it did. -/
def registryFewerUptoRow : OpenClaim := { program := "ytgcienlfpnpbgaagreat", sum := "3cd170de53885c443f0141c08000abf0f44e4d884f255a8c3fa0b25a79ef7123", func := "douane/douanelaw13.RegistryFewer", spec := "registryFewer", unfollowed := true, recurses := true, loops := true, apart := false, narrowed := true }
def RegistryFewerUptoSaid : Prop := registryFewerUptoRow.holds Tryz.pinned (OpenSpec.upto registryFewerSpec)

/-- 'douanelaw13.RegistryGets', WHERE WHAT IT READS IS OF BULK AT MOST 1048576: true; the input reads as it did. -/
def registryGetsUptoRow : OpenClaim := { program := "ytgcienlfpnpbgaagreat", sum := "3cd170de53885c443f0141c08000abf0f44e4d884f255a8c3fa0b25a79ef7123", func := "douane/douanelaw13.RegistryGets", spec := "registryGets", unfollowed := true, recurses := true, apart := false, narrowed := true }
def RegistryGetsUptoSaid : Prop := registryGetsUptoRow.holds Tryz.pinned (OpenSpec.upto registryGetsSpec)

/-- 'douanelaw17.RuleRight', WHERE WHAT IT READS IS OF BULK AT MOST 1048576: true; the input reads as it did. -/
def ruleRightUptoRow : OpenClaim := { program := "ytgcienlfpnpbgaagreat", sum := "3cd170de53885c443f0141c08000abf0f44e4d884f255a8c3fa0b25a79ef7123", func := "douane/douanelaw17.RuleRight", spec := "ruleRight", unfollowed := true, recurses := true, loops := true, apart := false, narrowed := true }
def RuleRightUptoSaid : Prop := ruleRightUptoRow.holds Tryz.pinned (OpenSpec.upto ruleRightSpec)

/-- 'douanelaw17.RuleBytes', WHERE WHAT IT READS IS OF BULK AT MOST 1048576: true; the input reads as it did. -/
def ruleBytesUptoRow : OpenClaim := { program := "ytgcienlfpnpbgaagreat", sum := "3cd170de53885c443f0141c08000abf0f44e4d884f255a8c3fa0b25a79ef7123", func := "douane/douanelaw17.RuleBytes", spec := "ruleBytes", unfollowed := true, recurses := true, loops := true, apart := false, narrowed := true }
def RuleBytesUptoSaid : Prop := ruleBytesUptoRow.holds Tryz.pinned (OpenSpec.upto ruleBytesSpec)

/-- 'douanelaw17.RuleBound', WHERE WHAT IT READS IS OF BULK AT MOST 1048576: true; the input reads as it did. -/
def ruleBoundUptoRow : OpenClaim := { program := "ytgcienlfpnpbgaagreat", sum := "3cd170de53885c443f0141c08000abf0f44e4d884f255a8c3fa0b25a79ef7123", func := "douane/douanelaw17.RuleBound", spec := "ruleBound", unfollowed := true, recurses := true, loops := true, apart := false, narrowed := true }
def RuleBoundUptoSaid : Prop := ruleBoundUptoRow.holds Tryz.pinned (OpenSpec.upto ruleBoundSpec)

/-- 'douanelaw17.RuleBare', WHERE WHAT IT READS IS OF BULK AT MOST 1048576: true; the input reads as it did. -/
def ruleBareUptoRow : OpenClaim := { program := "ytgcienlfpnpbgaagreat", sum := "3cd170de53885c443f0141c08000abf0f44e4d884f255a8c3fa0b25a79ef7123", func := "douane/douanelaw17.RuleBare", spec := "ruleBare", unfollowed := true, recurses := true, loops := true, apart := false, narrowed := true }
def RuleBareUptoSaid : Prop := ruleBareUptoRow.holds Tryz.pinned (OpenSpec.upto ruleBareSpec)

/-- 'douanelaw17.RuleBack', WHERE WHAT IT READS IS OF BULK AT MOST 1048576: true; the input reads as it did. -/
def ruleBackUptoRow : OpenClaim := { program := "ytgcienlfpnpbgaagreat", sum := "3cd170de53885c443f0141c08000abf0f44e4d884f255a8c3fa0b25a79ef7123", func := "douane/douanelaw17.RuleBack", spec := "ruleBack", unfollowed := true, recurses := true, loops := true, apart := false, narrowed := true }
def RuleBackUptoSaid : Prop := ruleBackUptoRow.holds Tryz.pinned (OpenSpec.upto ruleBackSpec)

/-- 'douanelaw17.RuleReads', WHERE WHAT IT READS IS OF BULK AT MOST 1048576: true; the input reads as it did. -/
def ruleReadsUptoRow : OpenClaim := { program := "ytgcienlfpnpbgaagreat", sum := "3cd170de53885c443f0141c08000abf0f44e4d884f255a8c3fa0b25a79ef7123", func := "douane/douanelaw17.RuleReads", spec := "ruleReads", unfollowed := true, recurses := true, loops := true, apart := false, narrowed := true }
def RuleReadsUptoSaid : Prop := ruleReadsUptoRow.holds Tryz.pinned (OpenSpec.upto ruleReadsSpec)

end Rows
end Go.Proofs.YtgcienlfpnpbgaaGreat
