/-
  Closed facts on the types of this seat: how many cells, the zero value, the bytes.
-/
import Derived.Test.YthjbafafkaoomaaBase
import Derived.Test.YthjbafafkaoomaaRows
namespace Go.Proofs.Ythjbafafkaoomaa
open Go.RowKit
theorem Try.infoInt : (Try.prog.info? 3).map (fun i => (i.zero, i.size, i.bytes)) = some (some (.int .i64 0), 1, 8) := by kernel_rfl
end Go.Proofs.Ythjbafafkaoomaa
