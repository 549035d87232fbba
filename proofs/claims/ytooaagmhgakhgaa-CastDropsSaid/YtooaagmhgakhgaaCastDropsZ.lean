/- The walk of the statement CastDrops. -/
import Derived.Test.YtooaagmhgakhgaaZ7
set_option linter.all false
section
namespace Go.Proofs.Ytooaagmhgakhgaa
set_option linter.unusedSimpArgs false
open Go.RowKit
theorem castBackAll (t : Tm) (r : Rc) (v w : Int) (hw : t.Wf) (hr : r.Wf) (st : St) : TrF Try.prog 5 [.agg t.cells, .agg r.cells, .i v, .i w] st fun d st' => d = .b true ∧ st' = st := castBackLaw cast12AliveF t r v w hw hr st
theorem castNewestAll (t : Tm) (r : Rc) (v : Int) (hw : t.Wf) (hr : r.Wf) (st : St) : TrF Try.prog 7 [.agg t.cells, .agg r.cells, .i v] st fun d st' => d = .b true ∧ st' = st := castNewestLaw cast12AliveF t r v hw hr st
end Go.Proofs.Ytooaagmhgakhgaa
end

section
namespace Go.Proofs.Ytooaagmhgakhgaa
set_option linter.unusedSimpArgs false
open Go.RowKit
theorem castFitsAll (t : Tm) (r : Rc) (v : Int) (hw : t.Wf) (hr : r.Wf) (st : St) : TrF Try.prog 8 [.agg t.cells, .agg r.cells, .i v] st fun d st' => d = .b true ∧ st' = st := castFitsLaw cast12AliveF t r v hw hr st
theorem castDropsAll (t : Tm) (r : Rc) (v : Int) (hw : t.Wf) (hr : r.Wf) (st : St) : TrF Try.prog 6 [.agg t.cells, .agg r.cells, .i v] st fun d st' => d = .b true ∧ st' = st := castDropsLaw cast12AliveF t r v hw hr st
end Go.Proofs.Ytooaagmhgakhgaa
end
