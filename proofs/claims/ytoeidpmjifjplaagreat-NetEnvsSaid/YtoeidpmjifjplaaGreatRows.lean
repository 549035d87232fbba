/-
  NARROWER THAN 'FOR EVERY INPUT', by the rows' own cells (each row's printed sentence says how): MatchPasses: loops · MatchAll: loops · MatchEnvs: loops · MatchOnce: loops · MatchFewer: loops · MatchTurned: loops · NetTells: loops · NetEnvs: loops · NetOrder: loops · NetBack: loops · NetAlone: loops.
  DERIVED. THE GIVEN ROWS OF THIS SEAT. 11 by the template 'for every input the law returns true; each argument reads behind the call as it read before'; 0 by the template 'total and deterministic' (their statements: YtoeidpmjifjplaaGreatTotals.lean).
  GIVEN WITH THE SEED: the statements are not yours to turn. If you find one false, say at which input.
  Laid BY PROGRAM, IN A SANDBOX (cutbox-rows.mjs): the forced cells as the released guide's own fill.sh prints them over the translation 9171c8b0e5054deb… (all of the seat's roots in one cut). By AI agents, Wed Nov 11 2026. No macro, syntax, notation, axiom, sorry.
-/
import Derived.Test.YtoeidpmjifjplaaGreatChecked
import GoSem.Claim
import GoSem.ClaimJoined
import GoSem.ClaimMapViews
import Derived.JoinedTies
import Derived.KernelRfl
namespace Go.Proofs.YtoeidpmjifjplaaGreat
/- THE CELL 'sum', in the pinned program and in every row, IS THE sha256 OF THE DUMP (.gsa) THAT YtoeidpmjifjplaaGreatProg.lean LOADS. Nothing in Lean hashes anything: it is a label: what it is worth is what the hold of that sum in a sandbox is worth. -/
noncomputable def Tryz.pinned : Pinned := { name := "ytoeidpmjifjplaagreat", sum := "9171c8b0e5054debc5bae2c86e6f129b8dd0e440b8c2a83e8798deae13be7db8", checked := Tryz.checked }
namespace Rows
def none {H : Type} : Left H := { results := [], args := [] }

/-- 'douanelaw18.MatchPasses': WHATEVER THE INPUT: true; the input reads as it did. -/
def matchPassesSpec : ChangeSpec := { name := "matchPasses", fn := fun _ => fun
  | [d1, d2, d3, d4] => { results := [.lit (.bool true)], args := [d1, d2, d3, d4] }
  | _ => none }
def matchPassesRow : OpenClaim := { program := "ytoeidpmjifjplaagreat", sum := "9171c8b0e5054debc5bae2c86e6f129b8dd0e440b8c2a83e8798deae13be7db8", func := "douane/douanelaw18.MatchPasses", spec := "matchPasses", unfollowed := true, recurses := true, loops := true, apart := false }
def MatchPassesSaid : Prop := matchPassesRow.holds Tryz.pinned (OpenSpec.ofChange matchPassesSpec)

/-- ITS FALSE NEIGHBOUR: 'it returns false'. Refute it at one input. -/
def matchPassesWrong : ChangeSpec := { name := "matchPasses", fn := fun _ => fun
  | [d1, d2, d3, d4] => { results := [.lit (.bool false)], args := [d1, d2, d3, d4] }
  | _ => none }
def MatchPassesWrongFalsely : Prop := matchPassesRow.holds Tryz.pinned (OpenSpec.ofChange matchPassesWrong)

/-- 'douanelaw18.MatchAll': WHATEVER THE INPUT: true; the input reads as it did. -/
def matchAllSpec : ChangeSpec := { name := "matchAll", fn := fun _ => fun
  | [d1, d2, d3] => { results := [.lit (.bool true)], args := [d1, d2, d3] }
  | _ => none }
def matchAllRow : OpenClaim := { program := "ytoeidpmjifjplaagreat", sum := "9171c8b0e5054debc5bae2c86e6f129b8dd0e440b8c2a83e8798deae13be7db8", func := "douane/douanelaw18.MatchAll", spec := "matchAll", unfollowed := true, recurses := true, loops := true, apart := false }
def MatchAllSaid : Prop := matchAllRow.holds Tryz.pinned (OpenSpec.ofChange matchAllSpec)

/-- ITS FALSE NEIGHBOUR: 'it returns false'. Refute it at one input. -/
def matchAllWrong : ChangeSpec := { name := "matchAll", fn := fun _ => fun
  | [d1, d2, d3] => { results := [.lit (.bool false)], args := [d1, d2, d3] }
  | _ => none }
def MatchAllWrongFalsely : Prop := matchAllRow.holds Tryz.pinned (OpenSpec.ofChange matchAllWrong)

/-- 'douanelaw18.MatchEnvs': WHATEVER THE INPUT: true; the input reads as it did. -/
def matchEnvsSpec : ChangeSpec := { name := "matchEnvs", fn := fun _ => fun
  | [d1, d2, d3, d4, d5] => { results := [.lit (.bool true)], args := [d1, d2, d3, d4, d5] }
  | _ => none }
def matchEnvsRow : OpenClaim := { program := "ytoeidpmjifjplaagreat", sum := "9171c8b0e5054debc5bae2c86e6f129b8dd0e440b8c2a83e8798deae13be7db8", func := "douane/douanelaw18.MatchEnvs", spec := "matchEnvs", unfollowed := true, recurses := true, loops := true, apart := false }
def MatchEnvsSaid : Prop := matchEnvsRow.holds Tryz.pinned (OpenSpec.ofChange matchEnvsSpec)

/-- ITS FALSE NEIGHBOUR: 'it returns false'. Refute it at one input. -/
def matchEnvsWrong : ChangeSpec := { name := "matchEnvs", fn := fun _ => fun
  | [d1, d2, d3, d4, d5] => { results := [.lit (.bool false)], args := [d1, d2, d3, d4, d5] }
  | _ => none }
def MatchEnvsWrongFalsely : Prop := matchEnvsRow.holds Tryz.pinned (OpenSpec.ofChange matchEnvsWrong)

/-- 'douanelaw18.MatchOnce': WHATEVER THE INPUT: true; the input reads as it did. -/
def matchOnceSpec : ChangeSpec := { name := "matchOnce", fn := fun _ => fun
  | [d1, d2, d3] => { results := [.lit (.bool true)], args := [d1, d2, d3] }
  | _ => none }
def matchOnceRow : OpenClaim := { program := "ytoeidpmjifjplaagreat", sum := "9171c8b0e5054debc5bae2c86e6f129b8dd0e440b8c2a83e8798deae13be7db8", func := "douane/douanelaw18.MatchOnce", spec := "matchOnce", unfollowed := true, recurses := true, loops := true, apart := false }
def MatchOnceSaid : Prop := matchOnceRow.holds Tryz.pinned (OpenSpec.ofChange matchOnceSpec)

/-- ITS FALSE NEIGHBOUR: 'it returns false'. Refute it at one input. -/
def matchOnceWrong : ChangeSpec := { name := "matchOnce", fn := fun _ => fun
  | [d1, d2, d3] => { results := [.lit (.bool false)], args := [d1, d2, d3] }
  | _ => none }
def MatchOnceWrongFalsely : Prop := matchOnceRow.holds Tryz.pinned (OpenSpec.ofChange matchOnceWrong)

/-- 'douanelaw18.MatchFewer': WHATEVER THE INPUT: true; the input reads as it did. -/
def matchFewerSpec : ChangeSpec := { name := "matchFewer", fn := fun _ => fun
  | [d1, d2, d3, d4] => { results := [.lit (.bool true)], args := [d1, d2, d3, d4] }
  | _ => none }
def matchFewerRow : OpenClaim := { program := "ytoeidpmjifjplaagreat", sum := "9171c8b0e5054debc5bae2c86e6f129b8dd0e440b8c2a83e8798deae13be7db8", func := "douane/douanelaw18.MatchFewer", spec := "matchFewer", unfollowed := true, recurses := true, loops := true, apart := false }
def MatchFewerSaid : Prop := matchFewerRow.holds Tryz.pinned (OpenSpec.ofChange matchFewerSpec)

/-- ITS FALSE NEIGHBOUR: 'it returns false'. Refute it at one input. -/
def matchFewerWrong : ChangeSpec := { name := "matchFewer", fn := fun _ => fun
  | [d1, d2, d3, d4] => { results := [.lit (.bool false)], args := [d1, d2, d3, d4] }
  | _ => none }
def MatchFewerWrongFalsely : Prop := matchFewerRow.holds Tryz.pinned (OpenSpec.ofChange matchFewerWrong)

/-- 'douanelaw18.MatchTurned': WHATEVER THE INPUT: true; the input reads as it did. -/
def matchTurnedSpec : ChangeSpec := { name := "matchTurned", fn := fun _ => fun
  | [d1, d2, d3] => { results := [.lit (.bool true)], args := [d1, d2, d3] }
  | _ => none }
def matchTurnedRow : OpenClaim := { program := "ytoeidpmjifjplaagreat", sum := "9171c8b0e5054debc5bae2c86e6f129b8dd0e440b8c2a83e8798deae13be7db8", func := "douane/douanelaw18.MatchTurned", spec := "matchTurned", unfollowed := true, recurses := true, loops := true, apart := false }
def MatchTurnedSaid : Prop := matchTurnedRow.holds Tryz.pinned (OpenSpec.ofChange matchTurnedSpec)

/-- ITS FALSE NEIGHBOUR: 'it returns false'. Refute it at one input. -/
def matchTurnedWrong : ChangeSpec := { name := "matchTurned", fn := fun _ => fun
  | [d1, d2, d3] => { results := [.lit (.bool false)], args := [d1, d2, d3] }
  | _ => none }
def MatchTurnedWrongFalsely : Prop := matchTurnedRow.holds Tryz.pinned (OpenSpec.ofChange matchTurnedWrong)

/-- 'douanelaw19.NetTells': WHATEVER THE INPUT: true; the input reads as it did. -/
def netTellsSpec : ChangeSpec := { name := "netTells", fn := fun _ => fun
  | [d1, d2, d3] => { results := [.lit (.bool true)], args := [d1, d2, d3] }
  | _ => none }
def netTellsRow : OpenClaim := { program := "ytoeidpmjifjplaagreat", sum := "9171c8b0e5054debc5bae2c86e6f129b8dd0e440b8c2a83e8798deae13be7db8", func := "douane/douanelaw19.NetTells", spec := "netTells", unfollowed := true, recurses := true, loops := true, apart := false }
def NetTellsSaid : Prop := netTellsRow.holds Tryz.pinned (OpenSpec.ofChange netTellsSpec)

/-- ITS FALSE NEIGHBOUR: 'it returns false'. Refute it at one input. -/
def netTellsWrong : ChangeSpec := { name := "netTells", fn := fun _ => fun
  | [d1, d2, d3] => { results := [.lit (.bool false)], args := [d1, d2, d3] }
  | _ => none }
def NetTellsWrongFalsely : Prop := netTellsRow.holds Tryz.pinned (OpenSpec.ofChange netTellsWrong)

/-- 'douanelaw19.NetEnvs': WHATEVER THE INPUT: true; the input reads as it did. -/
def netEnvsSpec : ChangeSpec := { name := "netEnvs", fn := fun _ => fun
  | [d1, d2, d3, d4] => { results := [.lit (.bool true)], args := [d1, d2, d3, d4] }
  | _ => none }
def netEnvsRow : OpenClaim := { program := "ytoeidpmjifjplaagreat", sum := "9171c8b0e5054debc5bae2c86e6f129b8dd0e440b8c2a83e8798deae13be7db8", func := "douane/douanelaw19.NetEnvs", spec := "netEnvs", unfollowed := true, recurses := true, loops := true, apart := false }
def NetEnvsSaid : Prop := netEnvsRow.holds Tryz.pinned (OpenSpec.ofChange netEnvsSpec)

/-- ITS FALSE NEIGHBOUR: 'it returns false'. Refute it at one input. -/
def netEnvsWrong : ChangeSpec := { name := "netEnvs", fn := fun _ => fun
  | [d1, d2, d3, d4] => { results := [.lit (.bool false)], args := [d1, d2, d3, d4] }
  | _ => none }
def NetEnvsWrongFalsely : Prop := netEnvsRow.holds Tryz.pinned (OpenSpec.ofChange netEnvsWrong)

/-- 'douanelaw19.NetOrder': WHATEVER THE INPUT: true; the input reads as it did. -/
def netOrderSpec : ChangeSpec := { name := "netOrder", fn := fun _ => fun
  | [d1, d2, d3] => { results := [.lit (.bool true)], args := [d1, d2, d3] }
  | _ => none }
def netOrderRow : OpenClaim := { program := "ytoeidpmjifjplaagreat", sum := "9171c8b0e5054debc5bae2c86e6f129b8dd0e440b8c2a83e8798deae13be7db8", func := "douane/douanelaw19.NetOrder", spec := "netOrder", unfollowed := true, recurses := true, loops := true, apart := false }
def NetOrderSaid : Prop := netOrderRow.holds Tryz.pinned (OpenSpec.ofChange netOrderSpec)

/-- ITS FALSE NEIGHBOUR: 'it returns false'. Refute it at one input. -/
def netOrderWrong : ChangeSpec := { name := "netOrder", fn := fun _ => fun
  | [d1, d2, d3] => { results := [.lit (.bool false)], args := [d1, d2, d3] }
  | _ => none }
def NetOrderWrongFalsely : Prop := netOrderRow.holds Tryz.pinned (OpenSpec.ofChange netOrderWrong)

/-- 'douanelaw19.NetBack': WHATEVER THE INPUT: true; the input reads as it did. -/
def netBackSpec : ChangeSpec := { name := "netBack", fn := fun _ => fun
  | [d1, d2, d3] => { results := [.lit (.bool true)], args := [d1, d2, d3] }
  | _ => none }
def netBackRow : OpenClaim := { program := "ytoeidpmjifjplaagreat", sum := "9171c8b0e5054debc5bae2c86e6f129b8dd0e440b8c2a83e8798deae13be7db8", func := "douane/douanelaw19.NetBack", spec := "netBack", unfollowed := true, recurses := true, loops := true, apart := false }
def NetBackSaid : Prop := netBackRow.holds Tryz.pinned (OpenSpec.ofChange netBackSpec)

/-- ITS FALSE NEIGHBOUR: 'it returns false'. Refute it at one input. -/
def netBackWrong : ChangeSpec := { name := "netBack", fn := fun _ => fun
  | [d1, d2, d3] => { results := [.lit (.bool false)], args := [d1, d2, d3] }
  | _ => none }
def NetBackWrongFalsely : Prop := netBackRow.holds Tryz.pinned (OpenSpec.ofChange netBackWrong)

/-- 'douanelaw19.NetAlone': WHATEVER THE INPUT: true; the input reads as it did. -/
def netAloneSpec : ChangeSpec := { name := "netAlone", fn := fun _ => fun
  | [d1, d2, d3] => { results := [.lit (.bool true)], args := [d1, d2, d3] }
  | _ => none }
def netAloneRow : OpenClaim := { program := "ytoeidpmjifjplaagreat", sum := "9171c8b0e5054debc5bae2c86e6f129b8dd0e440b8c2a83e8798deae13be7db8", func := "douane/douanelaw19.NetAlone", spec := "netAlone", unfollowed := true, recurses := true, loops := true, apart := false }
def NetAloneSaid : Prop := netAloneRow.holds Tryz.pinned (OpenSpec.ofChange netAloneSpec)

/-- ITS FALSE NEIGHBOUR: 'it returns false'. Refute it at one input. -/
def netAloneWrong : ChangeSpec := { name := "netAlone", fn := fun _ => fun
  | [d1, d2, d3] => { results := [.lit (.bool false)], args := [d1, d2, d3] }
  | _ => none }
def NetAloneWrongFalsely : Prop := netAloneRow.holds Tryz.pinned (OpenSpec.ofChange netAloneWrong)

/- THE SECOND FORM. 'bulk': how many values and letters a reading holds, each counted each time it is reached (what is shared counts as often as it is met; a slice's spare places count too). A statement '..UptoSaid' is the law's where the arguments, and the package variables that the reading takes, are together of bulk at most 1048576: NARROWER than '..Said'. Prove '..Said' where nothing that the law and all that it calls make is longer than what came in: it says more and counts as full. Else prove '..UptoSaid'. A law counts once. -/
mutual
def uptoBulk {H : Type} : DataW H → Nat
  | .lit (.string bytes) => bytes.length + 1
  | .lit _ => 1
  | .nil => 1
  | .ptr d => uptoBulk d + 1
  | .slice elems spare => uptoBulkAll elems + uptoBulkAll spare + 1
  | .agg parts => uptoBulkAll parts + 1
  | .iface _ d => uptoBulk d + 1
  | .map entries => uptoBulkEntries entries + 1
  | .held _ => 1
def uptoBulkAll {H : Type} : List (DataW H) → Nat
  | [] => 0
  | d :: r => uptoBulk d + uptoBulkAll r
def uptoBulkEntries {H : Type} : List (Lit × DataW H) → Nat
  | [] => 0
  | x :: r => uptoBulkEntry x + uptoBulkEntries r
def uptoBulkEntry {H : Type} : Lit × DataW H → Nat
  | (.string bytes, d) => bytes.length + uptoBulk d + 1
  | (_, d) => uptoBulk d + 1
 end
def uptoSmall : (H : Type) → List (DataW H) → Bool := fun _ ds => decide (uptoBulkAll ds ≤ 1048576)
def OpenSpec.upto (s : _root_.Go.ChangeSpec) : _root_.Go.OpenSpec := { _root_.Go.OpenSpec.ofChange s with cond := some uptoSmall }

/-- 'douanelaw18.MatchPasses', WHERE WHAT IT READS IS OF BULK AT MOST 1048576: true; the input reads as it did. -/
def matchPassesUptoRow : OpenClaim := { program := "ytoeidpmjifjplaagreat", sum := "9171c8b0e5054debc5bae2c86e6f129b8dd0e440b8c2a83e8798deae13be7db8", func := "douane/douanelaw18.MatchPasses", spec := "matchPasses", unfollowed := true, recurses := true, loops := true, apart := false, narrowed := true }
def MatchPassesUptoSaid : Prop := matchPassesUptoRow.holds Tryz.pinned (OpenSpec.upto matchPassesSpec)

/-- 'douanelaw18.MatchAll', WHERE WHAT IT READS IS OF BULK AT MOST 1048576: true; the input reads as it did. -/
def matchAllUptoRow : OpenClaim := { program := "ytoeidpmjifjplaagreat", sum := "9171c8b0e5054debc5bae2c86e6f129b8dd0e440b8c2a83e8798deae13be7db8", func := "douane/douanelaw18.MatchAll", spec := "matchAll", unfollowed := true, recurses := true, loops := true, apart := false, narrowed := true }
def MatchAllUptoSaid : Prop := matchAllUptoRow.holds Tryz.pinned (OpenSpec.upto matchAllSpec)

/-- 'douanelaw18.MatchEnvs', WHERE WHAT IT READS IS OF BULK AT MOST 1048576: true; the input reads as it did. -/
def matchEnvsUptoRow : OpenClaim := { program := "ytoeidpmjifjplaagreat", sum := "9171c8b0e5054debc5bae2c86e6f129b8dd0e440b8c2a83e8798deae13be7db8", func := "douane/douanelaw18.MatchEnvs", spec := "matchEnvs", unfollowed := true, recurses := true, loops := true, apart := false, narrowed := true }
def MatchEnvsUptoSaid : Prop := matchEnvsUptoRow.holds Tryz.pinned (OpenSpec.upto matchEnvsSpec)

/-- 'douanelaw18.MatchOnce', WHERE WHAT IT READS IS OF BULK AT MOST 1048576: true; the input reads as it did. -/
def matchOnceUptoRow : OpenClaim := { program := "ytoeidpmjifjplaagreat", sum := "9171c8b0e5054debc5bae2c86e6f129b8dd0e440b8c2a83e8798deae13be7db8", func := "douane/douanelaw18.MatchOnce", spec := "matchOnce", unfollowed := true, recurses := true, loops := true, apart := false, narrowed := true }
def MatchOnceUptoSaid : Prop := matchOnceUptoRow.holds Tryz.pinned (OpenSpec.upto matchOnceSpec)

/-- 'douanelaw18.MatchFewer', WHERE WHAT IT READS IS OF BULK AT MOST 1048576: true; the input reads as it did. -/
def matchFewerUptoRow : OpenClaim := { program := "ytoeidpmjifjplaagreat", sum := "9171c8b0e5054debc5bae2c86e6f129b8dd0e440b8c2a83e8798deae13be7db8", func := "douane/douanelaw18.MatchFewer", spec := "matchFewer", unfollowed := true, recurses := true, loops := true, apart := false, narrowed := true }
def MatchFewerUptoSaid : Prop := matchFewerUptoRow.holds Tryz.pinned (OpenSpec.upto matchFewerSpec)

/-- 'douanelaw18.MatchTurned', WHERE WHAT IT READS IS OF BULK AT MOST 1048576: true; the input reads as it did. -/
def matchTurnedUptoRow : OpenClaim := { program := "ytoeidpmjifjplaagreat", sum := "9171c8b0e5054debc5bae2c86e6f129b8dd0e440b8c2a83e8798deae13be7db8", func := "douane/douanelaw18.MatchTurned", spec := "matchTurned", unfollowed := true, recurses := true, loops := true, apart := false, narrowed := true }
def MatchTurnedUptoSaid : Prop := matchTurnedUptoRow.holds Tryz.pinned (OpenSpec.upto matchTurnedSpec)

/-- 'douanelaw19.NetTells', WHERE WHAT IT READS IS OF BULK AT MOST 1048576: true; the input reads as it did. -/
def netTellsUptoRow : OpenClaim := { program := "ytoeidpmjifjplaagreat", sum := "9171c8b0e5054debc5bae2c86e6f129b8dd0e440b8c2a83e8798deae13be7db8", func := "douane/douanelaw19.NetTells", spec := "netTells", unfollowed := true, recurses := true, loops := true, apart := false, narrowed := true }
def NetTellsUptoSaid : Prop := netTellsUptoRow.holds Tryz.pinned (OpenSpec.upto netTellsSpec)

/-- 'douanelaw19.NetEnvs', WHERE WHAT IT READS IS OF BULK AT MOST 1048576: true; the input reads as it did. -/
def netEnvsUptoRow : OpenClaim := { program := "ytoeidpmjifjplaagreat", sum := "9171c8b0e5054debc5bae2c86e6f129b8dd0e440b8c2a83e8798deae13be7db8", func := "douane/douanelaw19.NetEnvs", spec := "netEnvs", unfollowed := true, recurses := true, loops := true, apart := false, narrowed := true }
def NetEnvsUptoSaid : Prop := netEnvsUptoRow.holds Tryz.pinned (OpenSpec.upto netEnvsSpec)

/-- 'douanelaw19.NetOrder', WHERE WHAT IT READS IS OF BULK AT MOST 1048576: true; the input reads as it did. -/
def netOrderUptoRow : OpenClaim := { program := "ytoeidpmjifjplaagreat", sum := "9171c8b0e5054debc5bae2c86e6f129b8dd0e440b8c2a83e8798deae13be7db8", func := "douane/douanelaw19.NetOrder", spec := "netOrder", unfollowed := true, recurses := true, loops := true, apart := false, narrowed := true }
def NetOrderUptoSaid : Prop := netOrderUptoRow.holds Tryz.pinned (OpenSpec.upto netOrderSpec)

/-- 'douanelaw19.NetBack', WHERE WHAT IT READS IS OF BULK AT MOST 1048576: true; the input reads as it did. -/
def netBackUptoRow : OpenClaim := { program := "ytoeidpmjifjplaagreat", sum := "9171c8b0e5054debc5bae2c86e6f129b8dd0e440b8c2a83e8798deae13be7db8", func := "douane/douanelaw19.NetBack", spec := "netBack", unfollowed := true, recurses := true, loops := true, apart := false, narrowed := true }
def NetBackUptoSaid : Prop := netBackUptoRow.holds Tryz.pinned (OpenSpec.upto netBackSpec)

/-- 'douanelaw19.NetAlone', WHERE WHAT IT READS IS OF BULK AT MOST 1048576: true; the input reads as it did. -/
def netAloneUptoRow : OpenClaim := { program := "ytoeidpmjifjplaagreat", sum := "9171c8b0e5054debc5bae2c86e6f129b8dd0e440b8c2a83e8798deae13be7db8", func := "douane/douanelaw19.NetAlone", spec := "netAlone", unfollowed := true, recurses := true, loops := true, apart := false, narrowed := true }
def NetAloneUptoSaid : Prop := netAloneUptoRow.holds Tryz.pinned (OpenSpec.upto netAloneSpec)

end Rows
end Go.Proofs.YtoeidpmjifjplaaGreat
