/- What the program's tables say of the types that are appended to. -/
import Derived.Test.YtoglgeaiiipchaaApp
import Derived.Test.YtoglgeaiiipchaaProg
namespace Go.Proofs.Ytoglgeaiiipchaa
open Go Go.RowKit
theorem infoInt : (Try.prog.info? 3).map (fun i => (i.zero, i.size, i.bytes)) = some (some (.int .i64 0), 1, 8) := by kernel_rfl
theorem infoBool : (Try.prog.info? 4).map (fun i => (i.zero, i.size, i.bytes)) = some (some (.bool false), 1, 1) := by kernel_rfl
theorem infoRow : (Try.prog.info? 37).map (fun i => (i.zero, i.size, i.bytes)) = some (some (.slice none 0 0), 1, 24) := by kernel_rfl
end Go.Proofs.Ytoglgeaiiipchaa
