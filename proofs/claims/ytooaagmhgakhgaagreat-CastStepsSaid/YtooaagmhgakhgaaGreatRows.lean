/-
  NARROWER THAN 'FOR EVERY INPUT', by the rows' own cells (each row's printed sentence says how): CastGoes: loops · CastSteps: loops.
  DERIVED. THE GIVEN ROWS OF THIS SEAT. 2 by the template 'for every input the law returns true; each argument reads behind the call as it read before'; 0 by the template 'total and deterministic' (their statements: YtooaagmhgakhgaaGreatTotals.lean).
  GIVEN WITH THE SEED: the statements are not yours to turn. If you find one false, say at which input.
  Laid BY PROGRAM, IN A SANDBOX (cutbox-rows.mjs): the forced cells as the released guide's own fill.sh prints them over the translation 900d03a2246c116a… (all of the seat's roots in one cut). By AI agents, Wed Nov 11 2026. No macro, syntax, notation, axiom, sorry.
-/
import Derived.Test.YtooaagmhgakhgaaGreatChecked
import GoSem.Claim
import GoSem.ClaimJoined
import GoSem.ClaimMapViews
import Derived.JoinedTies
import Derived.KernelRfl
namespace Go.Proofs.YtooaagmhgakhgaaGreat
/- THE CELL 'sum', in the pinned program and in every row, IS THE sha256 OF THE DUMP (.gsa) THAT YtooaagmhgakhgaaGreatProg.lean LOADS. Nothing in Lean hashes anything: it is a label: what it is worth is what the hold of that sum in a sandbox is worth. -/
noncomputable def Tryz.pinned : Pinned := { name := "ytooaagmhgakhgaagreat", sum := "900d03a2246c116a8b4ddfcd7c209c32648d7ebbfd6b30cb583b5710de4a02e5", checked := Tryz.checked }
namespace Rows
def none {H : Type} : Left H := { results := [], args := [] }

/-- 'douanelaw12.CastGoes': WHATEVER THE INPUT: true; the input reads as it did. -/
def castGoesSpec : ChangeSpec := { name := "castGoes", fn := fun _ => fun
  | [d1, d2, d3] => { results := [.lit (.bool true)], args := [d1, d2, d3] }
  | _ => none }
def castGoesRow : OpenClaim := { program := "ytooaagmhgakhgaagreat", sum := "900d03a2246c116a8b4ddfcd7c209c32648d7ebbfd6b30cb583b5710de4a02e5", func := "douane/douanelaw12.CastGoes", spec := "castGoes", unfollowed := true, recurses := true, loops := true, apart := false }
def CastGoesSaid : Prop := castGoesRow.holds Tryz.pinned (OpenSpec.ofChange castGoesSpec)

/-- ITS FALSE NEIGHBOUR: 'it returns false'. Refute it at one input. -/
def castGoesWrong : ChangeSpec := { name := "castGoes", fn := fun _ => fun
  | [d1, d2, d3] => { results := [.lit (.bool false)], args := [d1, d2, d3] }
  | _ => none }
def CastGoesWrongFalsely : Prop := castGoesRow.holds Tryz.pinned (OpenSpec.ofChange castGoesWrong)

/-- 'douanelaw12.CastSteps': WHATEVER THE INPUT: true; the input reads as it did. -/
def castStepsSpec : ChangeSpec := { name := "castSteps", fn := fun _ => fun
  | [d1, d2] => { results := [.lit (.bool true)], args := [d1, d2] }
  | _ => none }
def castStepsRow : OpenClaim := { program := "ytooaagmhgakhgaagreat", sum := "900d03a2246c116a8b4ddfcd7c209c32648d7ebbfd6b30cb583b5710de4a02e5", func := "douane/douanelaw12.CastSteps", spec := "castSteps", unfollowed := true, recurses := true, loops := true, apart := false }
def CastStepsSaid : Prop := castStepsRow.holds Tryz.pinned (OpenSpec.ofChange castStepsSpec)

/-- ITS FALSE NEIGHBOUR: 'it returns false'. Refute it at one input. -/
def castStepsWrong : ChangeSpec := { name := "castSteps", fn := fun _ => fun
  | [d1, d2] => { results := [.lit (.bool false)], args := [d1, d2] }
  | _ => none }
def CastStepsWrongFalsely : Prop := castStepsRow.holds Tryz.pinned (OpenSpec.ofChange castStepsWrong)

/- THE SECOND FORM. 'bulk': how many values and letters a reading holds, each counted each time it is reached (what is shared counts as often as it is met; a slice's spare places count too). A statement '..UptoSaid' is the law's where the arguments, and the package variables that the reading takes, are together of bulk at most 1048576: NARROWER than '..Said'. Prove '..Said' where nothing that the law and all that it calls make is longer than what came in: it says more and counts as full. Else prove '..UptoSaid'. A law counts once. -/
mutual
def uptoBulk {H : Type} : DataW H → Nat
  | .lit (.string bytes) => bytes.length + 1
  | .lit _ => 1
  | .nil => 1
  | .ptr d => uptoBulk d + 1
  | .slice elems spare => uptoBulkAll elems + uptoBulkAll spare + 1
  | .agg parts => uptoBulkAll parts + 1
  | .iface _ d => uptoBulk d + 1
  | .map entries => uptoBulkEntries entries + 1
  | .held _ => 1
def uptoBulkAll {H : Type} : List (DataW H) → Nat
  | [] => 0
  | d :: r => uptoBulk d + uptoBulkAll r
def uptoBulkEntries {H : Type} : List (Lit × DataW H) → Nat
  | [] => 0
  | x :: r => uptoBulkEntry x + uptoBulkEntries r
def uptoBulkEntry {H : Type} : Lit × DataW H → Nat
  | (.string bytes, d) => bytes.length + uptoBulk d + 1
  | (_, d) => uptoBulk d + 1
 end
def uptoSmall : (H : Type) → List (DataW H) → Bool := fun _ ds => decide (uptoBulkAll ds ≤ 1048576)
def OpenSpec.upto (s : _root_.Go.ChangeSpec) : _root_.Go.OpenSpec := { _root_.Go.OpenSpec.ofChange s with cond := some uptoSmall }

/-- 'douanelaw12.CastGoes', WHERE WHAT IT READS IS OF BULK AT MOST 1048576: true; the input reads as it did. -/
def castGoesUptoRow : OpenClaim := { program := "ytooaagmhgakhgaagreat", sum := "900d03a2246c116a8b4ddfcd7c209c32648d7ebbfd6b30cb583b5710de4a02e5", func := "douane/douanelaw12.CastGoes", spec := "castGoes", unfollowed := true, recurses := true, loops := true, apart := false, narrowed := true }
def CastGoesUptoSaid : Prop := castGoesUptoRow.holds Tryz.pinned (OpenSpec.upto castGoesSpec)

/-- 'douanelaw12.CastSteps', WHERE WHAT IT READS IS OF BULK AT MOST 1048576: true; the input reads as it did. -/
def castStepsUptoRow : OpenClaim := { program := "ytooaagmhgakhgaagreat", sum := "900d03a2246c116a8b4ddfcd7c209c32648d7ebbfd6b30cb583b5710de4a02e5", func := "douane/douanelaw12.CastSteps", spec := "castSteps", unfollowed := true, recurses := true, loops := true, apart := false, narrowed := true }
def CastStepsUptoSaid : Prop := castStepsUptoRow.holds Tryz.pinned (OpenSpec.upto castStepsSpec)

end Rows
end Go.Proofs.YtooaagmhgakhgaaGreat
