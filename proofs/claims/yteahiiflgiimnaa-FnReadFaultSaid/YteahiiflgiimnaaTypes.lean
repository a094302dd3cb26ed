/-
  Closed facts on the types of this seat: how many cells, the zero value, the bytes.
-/
import Derived.Test.YteahiiflgiimnaaBase
import Derived.Test.YteahiiflgiimnaaRows
namespace Go.Proofs.Yteahiiflgiimnaa
open Go.RowKit
theorem Try.infoInt : (Try.prog.info? 3).map (fun i => (i.zero, i.size, i.bytes)) = some (some (.int .i64 0), 1, 8) := by kernel_rfl
theorem Try.cellsMp : Try.prog.cellsOf 76 = 3 := by kernel_rfl
theorem Try.infoMp : (Try.prog.info? 76).map (fun i => (i.zero, i.size, i.bytes)) = some (some (.agg #[.int .i64 0, .int .i64 0, .int .i64 0]), 3, 24) := by kernel_rfl
theorem Try.cellsLMp : Try.prog.cellsOf 78 = 3 := by kernel_rfl
end Go.Proofs.Yteahiiflgiimnaa
