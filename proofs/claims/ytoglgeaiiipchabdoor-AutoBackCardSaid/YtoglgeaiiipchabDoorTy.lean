/- What the program's tables say of the types that are appended to. -/
import Derived.Test.YtoglgeaiiipchabDoorApp
import Derived.Test.YtoglgeaiiipchabDoorProg
namespace Go.Proofs.YtoglgeaiiipchabDoor
open Go Go.RowKit
theorem infoInt : (Tryd.prog.info? 3).map (fun i => (i.zero, i.size, i.bytes)) = some (some (.int .i64 0), 1, 8) := by kernel_rfl
theorem infoBool : (Tryd.prog.info? 4).map (fun i => (i.zero, i.size, i.bytes)) = some (some (.bool false), 1, 1) := by kernel_rfl
theorem infoRow : (Tryd.prog.info? 23).map (fun i => (i.zero, i.size, i.bytes)) = some (some (.slice none 0 0), 1, 24) := by kernel_rfl
end Go.Proofs.YtoglgeaiiipchabDoor
