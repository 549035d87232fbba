/- Texts put together: CastI. No statement is proved here. -/
import Derived.Test.YtooaagmhgakhgaaZ6
set_option linter.all false
section
namespace Go.Proofs.Ytooaagmhgakhgaa
set_option linter.unusedSimpArgs false
attribute [local push_cast] encB encI encC V.cells_mk V.cells_len Nat.mul_one Int.sub_zero List.map_nil beq_self_eq_true List.head?_cons
open Go.RowKit
set_option maxRecDepth 10000
set_option maxHeartbeats 4000000
namespace Sch
end Sch
end Go.Proofs.Ytooaagmhgakhgaa
end
